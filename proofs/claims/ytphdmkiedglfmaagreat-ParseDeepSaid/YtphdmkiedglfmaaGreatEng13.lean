/- A part of the proof: an interpreter of the program, shown right once, and the laws that it computes. -/
import Derived.Test.YtphdmkiedglfmaaGreatEng10
set_option linter.constructorNameAsVariable false
set_option linter.unusedVariables false
set_option linter.unusedSimpArgs false
namespace Go.Eng
variable {P : Program} {γ : Gam}

theorem size_of_zero {e : Nat} {z : IV} (h : zero P e = some z) : ∃ n, size P e = some n := by
  unfold zero at h; unfold size
  cases hi : infoI P e with
  | none => simp [hi] at h
  | some i => exact ⟨i.size, rfl⟩

/-- A new variable. -/
theorem newVar_sim {ρ : Rho} {s : St} {w : World} {e n : Nat} {v : IV} {v' : Value} (h : Rel P γ ρ s w) (hv : VR ρ γ v v') (hn : size P e = some n) {m : Sem Value}
    (hm : m = (do pure (.pointer (some (← newVar e v'))))) : Yields P γ ρ s w m (.ptr s.next 0) (s.new (rowOf v.cells e 0)) := by
  obtain ⟨p, hp1, hp2, hp3, hp4, h1, h2, hle, hself⟩ := h.row_new (str := 0) hv.cells hn []
  subst hm
  refine ⟨.pointer (some ⟨w.heap.size, 0, none⟩), _, _, ?_, h2, h1, ?_⟩
  · simp only [newVar, Sem.run_bind, run_newRow, Result.andThen_ok, Sem.run_pure, List.append_nil, Array.toArray_toList]
  · have := VR.ptr (ρ := ρ.with s.next p) (γ := γ) s.next 0 p hself
    rw [hp1, hp2] at this
    exact this

theorem alloc_sim {ρ : Rho} {s : St} {w : World} {e : Nat} {z : IV} (h : Rel P γ ρ s w) (hz : zero P e = some z) : Yields P γ ρ s w (Instr.alloc e true (.tuple #[])) (.ptr s.next 0) (s.new (rowOf z.cells e 0)) := by
  obtain ⟨n, hn⟩ := size_of_zero hz
  obtain ⟨v, hv, hrun⟩ := run_zeroValue hz
  obtain ⟨v', w', ρ', h1, h2⟩ := newVar_sim h (VR.ofValue (ρ := ρ) (γ := γ) hv) hn rfl
  refine ⟨v', w', ρ', ?_, h2⟩
  unfold Instr.alloc
  simp only [Sem.run_bind, hrun, Result.andThen_ok]
  simpa only [Sem.run_bind] using h1

theorem box_sim {ρ : Rho} {s : St} {w : World} {e n : Nat} {v : IV} {v' : Value} (h : Rel P γ ρ s w) (hv : VR ρ γ v v') (hn : size P e = some n) : Yields P γ ρ s w (Instr.box e v') (.ptr s.next 0) (s.new (rowOf v.cells e 0)) :=
  newVar_sim h hv hn rfl

/- parts of values -/
theorem putL_zero (l : List IV) (vs : List IV) : putL l 0 vs = match vs with
    | [] => some l
    | v :: vs => match l with
      | _ :: l => match putL l 0 vs with
        | some r => some (v :: r)
        | none => none
      | [] => none := by cases l <;> cases vs <;> rfl
/-- Values over a list's, from a place on. -/
def overL (l : List Value) (off : Nat) (vs : List Value) : List Value := l.take off ++ vs ++ l.drop (off + vs.length)
theorem putL_sim {ρ : Rho} : ∀ {off : Nat} {l vs r : List IV} {l' vs' : List Value}, VRs ρ γ l l' → VRs ρ γ vs vs' → putL l off vs = some r → off + vs'.length ≤ l'.length ∧ VRs ρ γ r (overL l' off vs')
  | 0, l, [], r, l', vs', hl, hv, h => by
    cases hv
    rw [putL_zero] at h; simp at h; subst h
    simpa [overL] using hl
  | 0, [], v :: vs, r, l', vs', hl, hv, h => by rw [putL_zero] at h; simp at h
  | 0, x :: l, v :: vs, r, l', vs', hl, hv, h => by
    rw [putL_zero] at h
    simp only at h
    cases hq : putL l 0 vs with
    | none => rw [hq] at h; cases h
    | some q =>
      rw [hq] at h; cases h
      cases hl with
      | cons _ x' _ l'' hx hls => cases hv with
        | cons _ v' _ vs'' hv' hvs =>
          obtain ⟨h1, h2⟩ := putL_sim (off := 0) hls hvs hq
          refine ⟨by simp at h1 ⊢; omega, ?_⟩
          simpa [overL] using VRs.cons _ _ _ _ hv' (by simpa [overL] using h2)
  | off + 1, [], vs, r, l', vs', hl, hv, h => by simp [putL] at h
  | off + 1, x :: l, vs, r, l', vs', hl, hv, h => by
    unfold putL at h
    cases hq : putL l off vs with
    | none => simp [hq] at h
    | some q =>
      simp [hq] at h; subst h
      cases hl with
      | cons _ x' _ l'' hx hls =>
        obtain ⟨h1, h2⟩ := putL_sim (off := off) hls hv hq
        refine ⟨by simp; omega, ?_⟩
        have e : off + 1 + vs'.length = (off + vs'.length) + 1 := by omega
        simpa [overL, e] using VRs.cons _ _ _ _ hx h2

theorem get_overL (l vs : List Value) (off i : Nat) (h : off + vs.length ≤ l.length) : (overL l off vs)[i]? = if i < off then l[i]? else if i < off + vs.length then vs[i - off]? else l[i]? := by
  unfold overL
  have ht : (l.take off).length = off := by simp; omega
  by_cases h1 : i < off
  · rw [if_pos h1, List.append_assoc, List.getElem?_append_left (by omega), List.getElem?_take_of_lt h1]
  · rw [if_neg h1]
    by_cases h2 : i < off + vs.length
    · rw [if_pos h2, List.getElem?_append_left (by simp; omega), List.getElem?_append_right (by omega), ht]
    · rw [if_neg h2, List.getElem?_append_right (by simp; omega), List.getElem?_drop]
      congr 1; simp; omega

theorem foldl_set : ∀ (vs : List Value) (cs : Array Value) (off j : Nat), off + j + vs.length ≤ cs.size →
    ((vs.zipIdx j).foldl (fun cs (c, j) => cs.setIfInBounds (off + j) c) cs).toList = overL cs.toList (off + j) vs
  | [], cs, off, j, h => by simp [overL]
  | v :: vs, cs, off, j, h => by
    simp only [List.length_cons] at h
    have hsz : cs.toList.length = cs.size := Array.length_toList
    rw [List.zipIdx_cons, List.foldl_cons, foldl_set vs _ off (j + 1) (by simp; omega)]
    apply List.ext_getElem?
    intro i
    rw [get_overL _ _ _ _ (by simp; omega), get_overL _ _ _ _ (by simp; omega)]
    simp only [Array.toList_setIfInBounds, List.length_cons]
    by_cases h1 : i < off + j
    · rw [if_pos h1, if_pos (by omega), List.getElem?_set_ne (by omega)]
    · rw [if_neg h1]
      by_cases h2 : i = off + j
      · subst h2
        rw [if_pos (by omega), if_pos (by omega), List.getElem?_set_self (by omega)]
        simp
      · rw [if_neg (by omega)]
        by_cases h3 : i < off + (j + 1) + vs.length
        · rw [if_pos h3, if_pos (by omega)]
          have e1 : i - (off + j) = (i - (off + (j + 1))) + 1 := by omega
          rw [e1, List.getElem?_cons_succ]
        · rw [if_neg h3, if_neg (by omega), List.getElem?_set_ne (by omega)]

theorem fill_sim {ρ : Rho} {place : Nat → Option (Nat × Nat)} : ∀ {ps : List (Nat × IV)} {ps' : List (Nat × Value)} {cells r : List IV} {cells' : Array Value}, VRs ρ γ cells cells'.toList →
    ps.map (·.1) = ps'.map (·.1) → VRs ρ γ (ps.map (·.2)) (ps'.map (·.2)) → Eng.fill place cells ps = some r → ∃ r', Instr.fill place cells' ps' = some r' ∧ VRs ρ γ r r'.toList
  | [], [], cells, r, cells', hc, _, _, h => by simp [Eng.fill] at h; subst h; exact ⟨cells', rfl, hc⟩
  | (i, v) :: ps, (i', v') :: ps', cells, r, cells', hc, hi, hv, h => by
    simp only [List.map_cons, List.cons.injEq] at hi
    obtain ⟨rfl, hi⟩ := hi
    cases hv with
    | cons _ _ _ _ hv hvs =>
      unfold Eng.fill at h
      unfold Instr.fill
      cases hp : place i with
      | none => simp [hp] at h
      | some q =>
        obtain ⟨off, sz⟩ := q
        simp only [hp] at h ⊢
        cases hb : Nat.beq v.cells.length sz with
        | false => simp [hb] at h
        | true =>
          simp only [hb] at h
          have hsz := Nat.eq_of_beq_eq_true hb
          cases hq : putL cells off v.cells with
          | none => simp [hq] at h
          | some c =>
            simp only [hq] at h
            have hcl := hv.cells.length
            obtain ⟨h1, h2⟩ := putL_sim hc hv.cells hq
            simp only [Array.length_toList] at h1 hcl
            have e1 : (v'.cells.size != sz || decide (off + v'.cells.size > cells'.size)) = false := by
              simp only [Bool.or_eq_false_iff, bne_eq_false_iff_eq, decide_eq_false_iff_not]
              constructor <;> omega
            have hfold : (Array.foldl (fun cs (x : Value × Nat) => cs.setIfInBounds (off + x.2) x.1) cells' v'.cells.zipIdx).toList = overL cells'.toList off v'.cells.toList := by
              rw [← Array.foldl_toList, Array.toList_zipIdx]
              have := foldl_set v'.cells.toList cells' off 0 (by simp; omega)
              simpa using this
            have hnext := fill_sim (place := place) (cells' := Array.foldl (fun cs (x : Value × Nat) => cs.setIfInBounds (off + x.2) x.1) cells' v'.cells.zipIdx) (by rw [hfold]; exact h2) hi hvs h
            obtain ⟨r', hr1, hr2⟩ := hnext
            refine ⟨r', ?_, hr2⟩
            rw [if_neg (by simpa using e1)]
            exact hr1
  | [], _ :: _, _, _, _, _, hi, _, _ => by simp at hi
  | _ :: _, [], _, _, _, _, hi, _, _ => by simp at hi
end Go.Eng

set_option linter.constructorNameAsVariable false
set_option linter.unusedVariables false
set_option linter.unusedSimpArgs false
namespace Go.Eng
variable {P : Program} {γ : Gam}

/-- Parts of a value, by their places. -/
def PR (ρ : Rho) (γ : Gam) (ps : List (Nat × IV)) (ps' : List (Nat × Value)) : Prop := ps.map (·.1) = ps'.map (·.1) ∧ VRs ρ γ (ps.map (·.2)) (ps'.map (·.2))

theorem run_mapM_fields (w : World) : ∀ (fs : List Field) (ns : List Nat), (fs.map fun f => size P f.type) = ns.map some →
    (fs.mapM (m := Sem) fun f => do pure (f.offset, ← sizeOf f.type)).run P w = .ok (fs.zip ns |>.map fun (f, n) => (f.offset, n)) w
  | [], [], _ => rfl
  | f :: fs, n :: ns, h => by
    simp only [List.map_cons, List.cons.injEq] at h
    simp only [List.mapM_cons, Sem.run_bind, run_sizeOf h.1, Result.andThen_ok, Sem.run_pure, run_mapM_fields w fs ns h.2, List.zip_cons_cons, List.map_cons]
  | [], _ :: _, h => by simp at h
  | _ :: _, [], h => by simp at h

theorem fill_congr {place place' : Nat → Option (Nat × Nat)} : ∀ {ps : List (Nat × IV)} {cells r : List IV}, Eng.fill place cells ps = some r → (∀ i q, place i = some q → place' i = some q) → Eng.fill place' cells ps = some r
  | [], cells, r, h, _ => h
  | (i, v) :: ps, cells, r, h, hp => by
    unfold Eng.fill at h ⊢
    cases hq : place i with
    | none => simp [hq] at h
    | some q =>
      rw [hp i q hq]
      obtain ⟨off, sz⟩ := q
      simp only [hq] at h ⊢
      cases hb : Nat.beq v.cells.length sz with
      | false => simp [hb] at h
      | true =>
        simp only [hb] at h ⊢
        cases hc : putL cells off v.cells with
        | none => simp [hc] at h
        | some c =>
          simp only [hc] at h ⊢
          exact fill_congr h hp

theorem sized_get {fs : Array Field} (h : sized P fs = true) : ∃ ns : List Nat, (fs.toList.map fun f => size P f.type) = ns.map some := by
  unfold sized at h
  generalize fs.toList = l at h
  induction l with
  | nil => exact ⟨[], rfl⟩
  | cons f l ih =>
    simp only [List.all_cons, Bool.and_eq_true] at h
    obtain ⟨ns, hns⟩ := ih h.2
    cases hs : size P f.type with
    | none => simp [hs] at h
    | some n => exact ⟨n :: ns, by simp [hs, hns]⟩

theorem build_sim {ρ : Rho} {s : St} {w : World} {t : Nat} {z : IV} {u : TypeDesc} {ps : List (Nat × IV)} {ps' : Array (Nat × Value)} {c : List IV} (h : Rel P γ ρ s w) (hz : zero P t = some z) (hu : undI P t = some u)
    (hsz : ∀ fs, u = .struct fs → sized P fs = true) (hp : PR ρ γ ps ps'.toList) (hb : buildIn P u z.cells ps = some c) : Yields P γ ρ s w (Instr.build t ps') (.agg c) s := by
  obtain ⟨zv, hzv, hzrun⟩ := run_zeroValue hz
  have hzr := (VR.ofValue (ρ := ρ) (γ := γ) hzv).cells
  unfold buildIn at hb
  split at hb
  · rename_i fs
    obtain ⟨ns, hns⟩ := sized_get (hsz fs rfl)
    have hm := run_mapM_fields (P := P) w fs.toList ns hns
    let places : Array (Nat × Nat) := (fs.toList.zip ns |>.map fun (f, n) => (f.offset, n)).toArray
    have hpl : ∀ i q, fieldPl P fs i = some q → places[i]? = some q := by
      intro i q hq
      unfold fieldPl at hq
      split at hq
      · rename_i f hf
        split at hq
        · rename_i n hn
          cases hq
          have hf' : fs.toList[i]? = some f := by simpa using hf
          have hn' : ns[i]? = some n := by
            have := congrArg (fun l => l[i]?) hns
            simp only [List.getElem?_map, hf', Option.map_some, hn] at this
            cases hni : ns[i]? with
            | none => simp [hni] at this
            | some m => simp [hni] at this; rw [this]
          show (fs.toList.zip ns |>.map fun (f, n) => (f.offset, n)).toArray[i]? = _
          rw [List.getElem?_toArray, List.getElem?_map, (List.getElem?_zip_eq_some (z := (f, n))).2 ⟨hf', hn'⟩]
          rfl
        · cases hq
      · cases hq
    have hb' := fill_congr hb hpl
    obtain ⟨r', h1, h2⟩ := fill_sim (cells' := zv.cells) hzr hp.1 hp.2 hb'
    refine Yields.same h ?_ (.agg _ _ h2)
    unfold Instr.build
    simp only [Sem.run_bind, hzrun, Result.andThen_ok, run_underlying (undI_eq hu)]
    rw [Array.mapM_eq_mapM_toList]
    rw [Sem.run_map, hm]
    simp only [Result.andThen_ok]
    change Sem.run P (match Instr.fill (places[·]?) zv.cells ps'.toList with
      | some cells => pure (Value.agg cells)
      | _ => stuck "build: no such field, or a part of the wrong size") w = _
    rw [h1]
    rfl
  · rename_i n e
    cases hs : size P e with
    | none => simp [hs] at hb
    | some k =>
      simp only [hs] at hb
      obtain ⟨r', h1, h2⟩ := fill_sim (cells' := zv.cells) hzr hp.1 hp.2 hb
      refine Yields.same h ?_ (.agg _ _ h2)
      unfold Instr.build
      simp only [Sem.run_bind, hzrun, Result.andThen_ok, run_underlying (undI_eq hu), run_sizeOf hs, h1, Sem.run_pure]
  · cases hb

theorem rep_zero (l : List IV) : rep 0 l = [] := rfl
theorem rep_succ (n : Nat) (l : List IV) : rep (n + 1) l = l ++ rep n l := rfl
theorem length_rep (n : Nat) (l : List IV) : (rep n l).length = n * l.length := by
  induction n with
  | zero => simp [rep_zero]
  | succ n ih => rw [rep_succ, List.length_append, ih, Nat.succ_mul]; omega
theorem get_rep (n : Nat) (l : List IV) : ∀ (k : Nat), k < n * l.length → (rep n l)[k]? = l[k % l.length]? := by
  induction n with
  | zero => intro k h; simp at h
  | succ n ih =>
    intro k h
    rw [rep_succ]
    by_cases hk : k < l.length
    · rw [List.getElem?_append_left hk, Nat.mod_eq_of_lt hk]
    · rw [List.getElem?_append_right (by omega), ih (k - l.length) (by rw [Nat.succ_mul] at h; omega)]
      rw [← Nat.mod_eq_sub_mod (by omega)]
/-- A row of zero values. -/
theorem rep_sim {ρ : Rho} {l : List IV} {zs : Array Value} {m n : Nat} (hl : VRs ρ γ l zs.toList) (hm : m = n * zs.size) : VRs ρ γ (rep n l) ((Array.range m).map (zs[· % zs.size]!)).toList := by
  have hll := hl.length
  simp only [Array.length_toList] at hll
  refine VRs.of_get (by rw [length_rep, hll]; simp [hm]) ?_
  intro k v hk
  have hlt : k < n * l.length := by
    have := (List.getElem?_eq_some_iff.1 hk).1
    rwa [length_rep] at this
  rw [get_rep n l k hlt] at hk
  obtain ⟨v', h1, h2⟩ := hl.get hk
  refine ⟨v', ?_, h2⟩
  have hkm : k < m := by rw [hm, ← hll]; exact hlt
  simp only [Array.toList_map, Array.toList_range, List.getElem?_map, List.getElem?_range hkm, Option.map_some]
  rw [hll] at h1
  have : zs[k % zs.size]? = some v' := by simpa using h1
  rw [Array.getElem!_eq_getD, Array.getD_eq_getD_getElem?, this]
  rfl

theorem newRow_val {ρ : Rho} {s : St} {w : World} {e n len cap : Nat} {l : List IV} {arr : Array Value} (h : Rel P γ ρ s w) (hv : VRs ρ γ l arr.toList) (hn : size P e = some n) {m : Sem Value}
    (hm : m = (do pure (.slice (some (← newRow e arr)) len cap))) : Yields P γ ρ s w m (.sl s.next 0 len cap true) (s.new (rowOf l e 0)) := by
  obtain ⟨p, hp1, hp2, hp3, hp4, h1, h2, hle, hself⟩ := h.row_new (str := 0) hv hn []
  subst hm
  refine ⟨.slice (some ⟨w.heap.size, 0, none⟩) len cap, _, _, ?_, h2, h1, ?_⟩
  · simp only [Sem.run_bind, run_newRow, Result.andThen_ok, Sem.run_pure, List.append_nil, Array.toArray_toList]
  · have := VR.slx (ρ := ρ.with s.next p) (γ := γ) s.next 0 len cap p hself
    rw [hp1, hp2] at this
    exact this

theorem buildSlice_sim {ρ : Rho} {s : St} {w : World} {t e n len : Nat} {z : IV} {ps : List (Nat × IV)} {ps' : Array (Nat × Value)} {c : List IV} (h : Rel P γ ρ s w) (ht : sliceT P t = some e) (hz : zero P e = some z) (hn : size P e = some n)
    (hle : len * n ≤ 10000) (hzl : z.cells.length = n) (hp : PR ρ γ ps ps'.toList) (hb : Eng.fill (fun i => some (i * n, n)) (rep len z.cells) ps = some c) : Yields P γ ρ s w (Instr.buildSlice t len ps') (.sl s.next 0 len len true) (s.new (rowOf c e 0)) := by
  have hu : undI P t = some (.slice e) := by
    unfold sliceT at ht
    split at ht
    · rename_i e' hu; cases ht; exact hu
    · cases ht
  obtain ⟨zv, hzv, hzrun⟩ := run_zeroValue hz
  have hzr := (VR.ofValue (ρ := ρ) (γ := γ) hzv).cells
  have hzs : zv.cells.size = n := by have := hzr.length; simp at this; omega
  have hnb : ¬ (len * n > 2 ^ 24) := by omega
  let zs : Array Value := if len * n = 0 then #[] else zv.cells
  have hzrun' : (if len * n = 0 then pure #[] else do pure (← zeroValue e).cells : Sem (Array Value)).run P w = .ok zs w := by
    show _ = Result.ok (if len * n = 0 then #[] else zv.cells) w
    by_cases h0 : len * n = 0
    · simp [h0]
    · simp [h0, hzrun]
  have hrow : VRs ρ γ (rep len z.cells) ((Array.range (len * n)).map (zs[· % zs.size]!)).toList := by
    by_cases h0 : len * n = 0
    · have : rep len z.cells = [] := List.length_eq_zero_iff.1 (by rw [length_rep, hzl, h0])
      rw [this, h0]; simpa using VRs.nil
    · have : zs = zv.cells := if_neg h0
      rw [this]
      exact rep_sim hzr (by rw [hzs])
  obtain ⟨r', h1, h2⟩ := fill_sim hrow hp.1 hp.2 hb
  obtain ⟨v', w', ρ', hr1, hr2⟩ := newRow_val (len := len) (cap := len) h h2 hn rfl
  refine ⟨v', w', ρ', ?_, hr2⟩
  unfold Instr.buildSlice
  simp only [Sem.run_bind, run_underlying (undI_eq hu), Result.andThen_ok, run_sizeOf hn, if_neg hnb]
  by_cases h0 : len * n = 0
  · have hz0 : zs = #[] := if_pos h0
    rw [hz0] at h1
    simp only [if_pos h0, Sem.run_bind, Sem.run_pure, Result.andThen_ok, h1]
    simpa only [Sem.run_bind, Sem.run_pure] using hr1
  · have hz0 : zs = zv.cells := if_neg h0
    rw [hz0] at h1
    simp only [if_neg h0, Sem.run_bind, hzrun, Sem.run_pure, Result.andThen_ok, h1]
    simpa only [Sem.run_bind, Sem.run_pure] using hr1
end Go.Eng

set_option linter.constructorNameAsVariable false
set_option linter.unusedVariables false
set_option linter.unusedSimpArgs false
namespace Go.Eng
variable {P : Program} {γ : Gam}

theorem nat_inv {ρ : Rho} {x : IV} {x' : Value} {n : Nat} (hx : VR ρ γ x x') (h : x.nat = some n) : ∃ k, x' = .int k (Int.ofNat n) := by
  cases hx <;> simp only [IV.nat] at h <;> (try (cases h; done))
  rename_i k m
  cases m with
  | ofNat m => simp at h; subst h; exact ⟨k, rfl⟩
  | negSucc m => simp at h

theorem run_asIntOf (k : IntKind) (n : Int) (w : World) : (asIntOf (.int k n)).run P w = .ok (k, n) w := rfl

theorem bound_sim {w : World} {k : IntKind} {n y : Nat} {code : BoundsCode} (h : n ≤ y) : (Instr.sliceBound (.int k (Int.ofNat n)) y code).run P w = .ok n w := by
  unfold Instr.sliceBound
  have : (0 : Int) ≤ Int.ofNat n ∧ Int.ofNat n ≤ (y : Int) := ⟨Int.natCast_nonneg n, Int.ofNat_le.2 h⟩
  simp only [Sem.run_bind, run_asIntOf, Result.andThen_ok, if_pos this, Sem.run_pure]
  rfl

/-- A bound that may be left out. -/
def NR (ρ : Rho) (γ : Gam) : Option Nat → Option Value → Prop
  | none, none => True
  | some n, some v => ∃ k, v = .int k (Int.ofNat n)
  | _, _ => False

theorem bounds_sim {w : World} {isSl : Bool} {len cap : Nat} {lo hi mx : Option Nat} {lo' hi' mx' : Option Value} {ρ : Rho} (hl : NR ρ γ lo lo') (hh : NR ρ γ hi hi') (hm : NR ρ γ mx mx') (hmx : mx = none ∨ hi ≠ none)
    (h1 : dflt 0 lo ≤ dflt len hi) (h2 : dflt len hi ≤ dflt cap mx) (h3 : dflt cap mx ≤ cap) :
    (Instr.sliceBounds isSl len cap lo' hi' mx').run P w = .ok (dflt 0 lo, dflt len hi, dflt cap mx) w := by
  unfold Instr.sliceBounds
  cases mx with
  | none =>
    cases mx' with
    | some _ => exact hm.elim
    | none =>
      cases hi with
      | none =>
        cases hi' with
        | some _ => exact hh.elim
        | none =>
          cases lo with
          | none => cases lo' with
            | some _ => exact hl.elim
            | none => rfl
          | some n => cases lo' with
            | none => exact hl.elim
            | some v =>
              obtain ⟨k, rfl⟩ := hl
              simp only [dflt] at h1 h2 h3 ⊢
              simp only [Sem.run_bind, Sem.run_pure, Result.andThen_ok, bound_sim h1]
      | some m =>
        cases hi' with
        | none => exact hh.elim
        | some v =>
          obtain ⟨k, rfl⟩ := hh
          simp only [dflt] at h1 h2 h3 ⊢
          cases lo with
          | none => cases lo' with
            | some _ => exact hl.elim
            | none => simp only [Sem.run_bind, Sem.run_pure, Result.andThen_ok, bound_sim h2]
          | some n => cases lo' with
            | none => exact hl.elim
            | some v =>
              obtain ⟨k, rfl⟩ := hl
              simp only at h1
              simp only [Sem.run_bind, Sem.run_pure, Result.andThen_ok, bound_sim h2, bound_sim h1]
  | some q =>
    cases mx' with
    | none => exact hm.elim
    | some vq =>
      obtain ⟨kq, rfl⟩ := hm
      cases hi with
      | none => exact absurd rfl (hmx.resolve_left (by simp))
      | some m =>
        cases hi' with
        | none => exact hh.elim
        | some v =>
          obtain ⟨k, rfl⟩ := hh
          simp only [dflt] at h1 h2 h3 ⊢
          cases lo with
          | none => cases lo' with
            | some _ => exact hl.elim
            | none => simp only [Sem.run_bind, Sem.run_pure, Result.andThen_ok, bound_sim h3, bound_sim h2]
          | some n => cases lo' with
            | none => exact hl.elim
            | some v =>
              obtain ⟨k, rfl⟩ := hl
              simp only at h1
              simp only [Sem.run_bind, Sem.run_pure, Result.andThen_ok, bound_sim h3, bound_sim h2, bound_sim h1]

theorem dropN_eq {α : Type} : ∀ {n : Nat} {l r : List α}, dropN n l = some r → n ≤ l.length ∧ r = l.drop n
  | 0, l, r, h => by simp [dropN] at h; subst h; simp
  | n + 1, [], r, h => by simp [dropN] at h
  | n + 1, x :: l, r, h => by simp only [dropN] at h; have := dropN_eq h; simpa using this
theorem takeR_eq {α : Type} : ∀ (l : List α) (n : Nat), takeR n l = l.take n
  | [], n => by cases n <;> rfl
  | x :: l, 0 => rfl
  | x :: l, n + 1 => by
    have := takeR_eq l n
    show x :: takeR n l = x :: l.take n
    rw [this]
theorem takeL_eq {α : Type} {n : Nat} {l r : List α} (h : takeL n l = some r) : n ≤ l.length ∧ r = l.take n := by
  unfold takeL at h
  split at h <;> (try (cases h; done))
  rename_i hb
  cases h
  exact ⟨Nat.le_of_ble_eq_true hb, takeR_eq l n⟩
theorem takeN_eq {α : Type} : ∀ {n : Nat} {l r : List α}, takeN n l = some r → n ≤ l.length ∧ r = l.take n
  | 0, l, r, h => by simp [takeN] at h; subst h; simp
  | n + 1, [], r, h => by simp [takeN] at h
  | n + 1, x :: l, r, h => by
    simp only [takeN] at h
    cases ht : takeN n l with
    | none => simp [ht] at h
    | some q => simp [ht] at h; subst h; have := takeN_eq ht; simp [this]

theorem cutSl_inv {b o c sz lo h m : Nat} {x : Bool} {v : IV} (hr : cutSl b o c x sz lo h m = some v) : lo ≤ h ∧ h ≤ m ∧ m ≤ c ∧ v = .sl b (if m = lo then o else o + lo * sz) (h - lo) (m - lo) x := by
  unfold cutSl at hr
  cases h1 : Nat.ble lo h with
  | false => simp [h1] at hr
  | true =>
    simp only [h1] at hr
    cases h2 : Nat.ble h m with
    | false => simp [h2] at hr
    | true =>
      simp only [h2] at hr
      cases h3 : Nat.ble m c with
      | false => simp [h3] at hr
      | true =>
        simp only [h3] at hr
        cases hr
        refine ⟨Nat.le_of_ble_eq_true h1, Nat.le_of_ble_eq_true h2, Nat.le_of_ble_eq_true h3, ?_⟩
        congr 1
        cases hb : Nat.beq m lo with
        | true => simp [Nat.eq_of_beq_eq_true hb]
        | false =>
          have : m ≠ lo := fun e => by subst e; simp at hb
          simp [this]

theorem cut_exact {ρ : Rho} {b o n c sz lo hh m : Nat} {p : Pl} (hb : ρ b = some p) : VR ρ γ (.sl b (if m = lo then o else o + lo * sz) n c true) (.slice (some (if m = lo then (⟨p.blk, p.shift + o, none⟩ : Addr) else Addr.add ⟨p.blk, p.shift + o, none⟩ (lo * sz))) n c) := by
  by_cases h : m = lo
  · simp only [if_pos h]; exact .slx _ _ _ _ p hb
  · simp only [if_neg h, add_none, Nat.add_assoc]; exact .slx _ _ _ _ p hb

/-- Slices of slices: the place's size is the element type's. -/
theorem sliceAtT_sim {ρ : Rho} {s : St} {w : World} {t : Nat} {u : TypeDesc} {x v : IV} {x' : Value} {lo hi mx : Option Nat} {lo' hi' mx' : Option Value} (h : Rel P γ ρ s w) (hu : undI P t = some u) (hx : VR ρ γ x x')
    (hl : NR ρ γ lo lo') (hh : NR ρ γ hi hi') (hm : NR ρ γ mx mx') (hmx : mx = none ∨ hi ≠ none) (hsz : ∀ b o n c p e, x = .sl b o n c false → u = .slice e → ρ b = some p → size P e = some p.sz)
    (hr : sliceAtT P u x lo hi mx = some v) : Yields P γ ρ s w (Instr.sliceAt t x' lo' hi' mx') v s := by
  have hu' := undI_eq hu
  unfold sliceAtT at hr
  split at hr
  · -- a text
    cases x <;> simp only at hr <;> (try (cases hr; done))
    rename_i l
    · cases hx with
      | str sx _ hl0 =>
        cases mx with
        | some _ => cases hr
        | none =>
          cases mx' with
          | some _ => exact hm.elim
          | none =>
            simp only at hr
            unfold cutStr at hr
            cases h1 : Nat.ble (dflt 0 lo) (dflt l.length hi) with
            | false => simp [h1] at hr
            | true =>
              simp only [h1] at hr
              have hle := Nat.le_of_ble_eq_true h1
              cases hd : dropN (dflt 0 lo) l with
              | none => simp [hd] at hr
              | some r =>
                simp only [hd] at hr
                cases ht : takeL (dflt l.length hi - dflt 0 lo) r with
                | none => simp [ht] at hr
                | some q =>
                  simp only [ht] at hr; cases hr
                  obtain ⟨hd1, rfl⟩ := dropN_eq hd
                  obtain ⟨ht1, rfl⟩ := takeL_eq ht
                  have hlen : l.length = sx.size := by subst hl0; simp
                  simp only [List.length_drop] at ht1
                  have hb := bounds_sim (P := P) (γ := γ) (ρ := ρ) (w := w) (isSl := false) (len := sx.size) (cap := sx.size) hl hh (mx := none) (mx' := none) trivial (.inl rfl) (by rw [← hlen]; exact hle) (by rw [← hlen]; show dflt l.length hi ≤ l.length; omega) (Nat.le_refl _)
                  refine Yields.same h ?_ (.str (sx.extract (dflt 0 lo) (dflt sx.size hi)) _ ?_)
                  · unfold Instr.sliceAt Instr.slice
                    simp only [Sem.run_bind, run_underlying hu', Result.andThen_ok, Option.isSome_none, Bool.false_eq_true, if_false, hb, Sem.run_pure]
                  · subst hl0
                    rw [ByteArray.data_extract, Array.toList_extract, List.extract_eq_take_drop, List.map_take, List.map_drop, hlen]
    · rename_i l
      cases hx with
      | sstr sx _ hl0 hlc =>
        cases mx with
        | some _ => cases hr
        | none =>
          cases mx' with
          | some _ => exact hm.elim
          | none =>
            simp only at hr
            unfold cutSS at hr
            cases h1 : Nat.ble (dflt 0 lo) (dflt l.length hi) with
            | false => simp [h1] at hr
            | true =>
              simp only [h1] at hr
              have hle := Nat.le_of_ble_eq_true h1
              cases hd : dropN (dflt 0 lo) l with
              | none => simp [hd] at hr
              | some r =>
                simp only [hd] at hr
                cases ht : takeL (dflt l.length hi - dflt 0 lo) r with
                | none => simp [ht] at hr
                | some q =>
                  simp only [ht] at hr; cases hr
                  obtain ⟨hd1, rfl⟩ := dropN_eq hd
                  obtain ⟨ht1, rfl⟩ := takeL_eq ht
                  have hlen : l.length = sx.size := by have := congrArg List.length hl0; simpa using this.symm
                  simp only [List.length_drop] at ht1
                  have hb := bounds_sim (P := P) (γ := γ) (ρ := ρ) (w := w) (isSl := false) (len := sx.size) (cap := sx.size) hl hh (mx := none) (mx' := none) trivial (.inl rfl) (by rw [← hlen]; exact hle) (by rw [← hlen]; show dflt l.length hi ≤ l.length; omega) (Nat.le_refl _)
                  refine Yields.same h (v' := .string (sx.extract (dflt 0 lo) (dflt sx.size hi))) ?_ (textOf_rel ?_ ?_)
                  · unfold Instr.sliceAt Instr.slice
                    simp only [Sem.run_bind, run_underlying hu', Result.andThen_ok, Option.isSome_none, Bool.false_eq_true, if_false, hb, Sem.run_pure]
                  · rw [ByteArray.data_extract, Array.toList_extract, List.extract_eq_take_drop, List.map_take, List.map_drop, hl0, hlen, List.map_take, List.map_drop]
                  · exact fun c hc => hlc c (List.mem_of_mem_drop (List.mem_of_mem_take hc))
  · -- a slice
    rename_i e
    cases x <;> simp only at hr <;> (try (cases hr; done))
    · -- nil
      cases hx
      cases hes : size P e with
      | none => simp [hes] at hr
      | some sz =>
      simp only [hes] at hr
      cases hz : zeroOr lo && zeroOr hi && zeroOr mx with
      | false => simp [hz] at hr
      | true =>
        simp [hz] at hr; subst hr
        simp only [Bool.and_eq_true] at hz
        have hzero : ∀ {o : Option Nat} (d : Nat), zeroOr o = true → d = 0 → dflt d o = 0 := by
          intro o d ho hd
          cases o with
          | none => exact hd
          | some n => cases n with
            | zero => rfl
            | succ n => simp [zeroOr] at ho
        have e1 := hzero 0 hz.1.1 rfl
        have e2 := hzero 0 hz.1.2 rfl
        have e3 := hzero 0 hz.2 rfl
        have hb := bounds_sim (P := P) (γ := γ) (ρ := ρ) (w := w) (isSl := true) (len := 0) (cap := 0) hl hh hm hmx (by omega) (by omega) (by omega)
        rw [e1, e2, e3] at hb
        refine Yields.same h ?_ .nilsl
        unfold Instr.sliceAt Instr.slice
        simp only [Sem.run_bind, run_underlying hu', Result.andThen_ok, hb, run_sizeOf hes, Sem.run_pure]
        rfl
    · rename_i b o n c ex
      cases hes : size P e with
      | none => simp [hes] at hr
      | some sz =>
        simp only [hes] at hr
        obtain ⟨h1, h2, h3, rfl⟩ := cutSl_inv hr
        obtain ⟨p, off, c', hb, rfl, hoff, hcc, hex1, hex2⟩ := hx.sl_inv
        have hm' : dflt c mx ≤ dflt c' mx := by cases mx <;> simp [dflt]; exact hcc
        have hm'' : dflt c' mx ≤ c' := by cases mx with
          | none => simp [dflt]
          | some q => simp only [dflt] at h3 ⊢; omega
        have hbd := bounds_sim (P := P) (γ := γ) (ρ := ρ) (w := w) (isSl := true) (len := n) (cap := c') hl hh hm hmx h1 (Nat.le_trans h2 hm') hm''
        refine Yields.same h (v' := .slice (some (if dflt c' mx = dflt 0 lo then (⟨p.blk, off, none⟩ : Addr) else Addr.add ⟨p.blk, off, none⟩ (dflt 0 lo * sz))) (dflt n hi - dflt 0 lo) (dflt c' mx - dflt 0 lo)) ?_ ?_
        · unfold Instr.sliceAt Instr.slice
          simp only [Sem.run_bind, run_underlying hu', Result.andThen_ok, hbd, run_sizeOf hes, Sem.run_pure]
          congr 2
          split <;> rfl
        · -- the relation
          cases ex with
          | true =>
            obtain ⟨rfl, rfl⟩ := hex1 rfl
            simp only [Bool.true_or]
            exact cut_exact (hh := 0) hb
          | false =>
            obtain ⟨hnc, ho, hlim⟩ := hex2 rfl
            have hpsz : p.sz = sz := by
              have := hsz b o n c p e rfl rfl hb
              rw [hes] at this; exact (Option.some.inj this).symm
            subst hpsz
            have hge : p.shift ≤ off := by
              rcases ho with h | h <;> omega
            by_cases hz0 : c = 0
            · subst hz0
              have hq0 : dflt 0 mx = 0 := by omega
              have hl0 : dflt 0 lo = 0 := by omega
              have hh0 : dflt n hi = 0 := by omega
              have e0 : (false || (isSome' mx && !(Nat.beq 0 0))) = false := by cases mx <;> rfl
              rw [e0, hl0, hh0, hq0]
              simp only [if_true, Nat.sub_zero]
              have e1 : (if dflt c' mx = 0 then (⟨p.blk, off, none⟩ : Addr) else Addr.add ⟨p.blk, off, none⟩ (0 * p.sz)) = ⟨p.blk, off, none⟩ := by
                split
                · rfl
                · rw [add_none]; simp
              rw [e1]
              refine .sli b o 0 0 (dflt c' mx) off p hb (Nat.le_refl _) (Nat.zero_le _) (.inr ⟨rfl, hge⟩) ?_
              exact Nat.le_trans (Nat.add_le_add_left (Nat.mul_le_mul_right _ hm'') _) hlim
            · have hoff' : off = p.shift + o := ho.resolve_right (fun h => hz0 h.1)
              subst hoff'
              have hcb : Nat.beq c 0 = false := by
                cases hb0 : Nat.beq c 0 with
                | false => rfl
                | true => exact absurd (Nat.eq_of_beq_eq_true hb0) hz0
              cases mx with
              | some q =>
                have e0 : (false || (isSome' (some q) && !(Nat.beq c 0))) = true := by rw [hcb]; rfl
                rw [e0]
                exact cut_exact (hh := 0) hb
              | none =>
                have e1 : dflt c none = c := rfl
                have e2 : dflt c' none = c' := rfl
                have e3 : (false || (isSome' none && !(Nat.beq c 0))) = false := rfl
                rw [e1] at h2
                rw [e1, e2, e3]
                generalize dflt 0 lo = L at h1 h2 ⊢
                generalize dflt n hi = H at h1 h2 ⊢
                have hsum : L * p.sz + (c' - L) * p.sz = c' * p.sz := by
                  rw [← Nat.add_mul]; congr 1; omega
                by_cases hcl : c = L
                · subst hcl
                  rw [if_pos rfl, Nat.sub_self]
                  have hH : H - c = 0 := by omega
                  rw [hH]
                  by_cases hc' : c' = c
                  · subst hc'
                    rw [if_pos rfl, Nat.sub_self]
                    exact .sli b o 0 0 0 (p.shift + o) p hb (Nat.le_refl _) (Nat.le_refl _) (.inl rfl) (by simp; omega)
                  · rw [if_neg hc', add_none]
                    refine .sli b o 0 0 (c' - c) (p.shift + o + c * p.sz) p hb (Nat.le_refl _) (Nat.zero_le _) (.inr ⟨rfl, by omega⟩) ?_
                    omega
                · have hc' : c' ≠ L := by omega
                  rw [if_neg hcl, if_neg hc', add_none]
                  refine .sli b (o + L * p.sz) (H - L) (c - L) (c' - L) (p.shift + o + L * p.sz) p hb (by omega) (by omega) (.inl (by omega)) ?_
                  omega
  · -- an array
    rename_i n e
    cases x <;> simp only at hr <;> (try (cases hr; done))
    rename_i b o
    cases hx with
    | ptr _ _ p hb =>
      cases hes : size P e with
      | none => simp [hes] at hr
      | some sz =>
        simp only [hes] at hr
        obtain ⟨h1, h2, h3, rfl⟩ := cutSl_inv hr
        have hbd := bounds_sim (P := P) (γ := γ) (ρ := ρ) (w := w) (isSl := false) (len := n) (cap := n) hl hh hm hmx h1 h2 h3
        refine Yields.same h ?_ (cut_exact (hh := 0) hb)
        unfold Instr.sliceAt
        simp only [Sem.run_bind, run_underlying hu', Result.andThen_ok, Instr.sureAddr, hbd, run_sizeOf hes, Sem.run_pure]
  · cases hr
end Go.Eng

set_option linter.constructorNameAsVariable false
set_option linter.unusedVariables false
set_option linter.unusedSimpArgs false
namespace Go.Eng
variable {P : Program} {γ : Gam}

theorem sliceT_eq {t e : Nat} (h : sliceT P t = some e) : P.underlying t = some (.slice e) := by
  unfold sliceT at h
  split at h
  · rename_i hu; cases h; exact undI_eq hu
  · cases h
theorem mapT_eq {t k e : Nat} (h : mapT P t = some (k, e)) : P.underlying t = some (.map k e) := by
  unfold mapT at h
  split at h
  · rename_i hu; cases h; exact undI_eq hu
  · cases h
theorem bytesT_eq {e : Nat} {i : TypeInfo} (h : infoI P e = some i) : bytesT P e = i.bytes := by unfold bytesT; rw [h]
theorem info_of_size {e n : Nat} (h : size P e = some n) : ∃ i, infoI P e = some i ∧ i.size = n := by
  unfold size at h
  cases hi : infoI P e with
  | none => simp [hi] at h
  | some i => simp [hi] at h; exact ⟨i, rfl, h⟩

theorem wrap_small {n : Nat} (h : n ≤ top64) : IntKind.i64.wrap (Int.ofNat n) = Int.ofNat n := by
  rw [← wrap64I_eq]
  show Bool.rec (motive := fun _ => Int) _ (Int.ofNat n) (Nat.ble n top64) = _
  rw [Nat.ble_eq_true_of_le h]

theorem makeSlice_sim {ρ : Rho} {s s' : St} {w : World} {t e n : Nat} {z l c v : IV} {l' c' : Value} (h : Rel P γ ρ s w) (ht : sliceT P t = some e) (hz : zero P e = some z) (hn : size P e = some (n + 1)) (hzl : z.cells.length = n + 1)
    (hl : VR ρ γ l l') (hc : VR ρ γ c c') (hr : makeSl' e (bytesT P e) z.cells l c s = .ok v s') : Yields P γ ρ s w (Instr.makeSlice t l' c') v s' := by
  unfold makeSl' at hr
  cases hln : l.nat with
  | none => simp [hln] at hr
  | some ln =>
    cases hcn : c.nat with
    | none => simp [hln, hcn] at hr
    | some cn =>
      simp only [hln, hcn] at hr
      obtain ⟨kl, rfl⟩ := nat_inv hl hln
      obtain ⟨kc, rfl⟩ := nat_inv hc hcn
      unfold makeSl at hr
      cases hb : Nat.ble ln cn && small cn (bytesT P e) && Nat.ble cn top64 with
      | false => simp [hb] at hr
      | true =>
        simp only [hb] at hr
        injection hr with hv hs
        subst hv hs
        simp only [Bool.and_eq_true] at hb
        have h1 := Nat.le_of_ble_eq_true hb.1.1
        have h2 := Nat.le_of_ble_eq_true hb.2
        have h3 := Nat.le_of_ble_eq_true hb.1.2
        obtain ⟨i, hi, hin⟩ := info_of_size hn
        rw [bytesT_eq hi] at h3
        obtain ⟨zv, hzv, hzrun⟩ := run_zeroValue hz
        have hzr := (VR.ofValue (ρ := ρ) (γ := γ) hzv).cells
        have hzs : zv.cells.size = n + 1 := by have := hzr.length; simp at this; omega
        have hlarge : ∀ m : Nat, m ≤ cn → ¬ ((i.bytes : Int) * (Int.ofNat m) > 2 ^ 48) := by
          intro m hm
          have hmul : i.bytes * m ≤ 2 ^ 48 := by
            have : i.bytes * m ≤ (4 * cn + 4000) * i.bytes := by
              rw [Nat.mul_comm]; exact Nat.mul_le_mul_right _ (by omega)
            omega
          have : (i.bytes : Int) * (Int.ofNat m) = ((i.bytes * m : Nat) : Int) := by simp
          rw [this]
          have e48 : (2 : Int) ^ 48 = ((2 ^ 48 : Nat) : Int) := by decide
          rw [e48]
          omega
        have hrow : VRs ρ γ (rep cn z.cells) ((Array.range (cn * (n + 1))).map (zv.cells[· % zv.cells.size]!)).toList := rep_sim hzr (by rw [hzs])
        have key : ∀ zs : Array Value, (cn * (n + 1) = 0 ∧ zs = #[] ∨ zs = zv.cells) → VRs ρ γ (rep cn z.cells) ((Array.range (cn * (n + 1))).map (zs[· % zs.size]!)).toList := by
          intro zs hzs'
          rcases hzs' with ⟨h0, rfl⟩ | rfl
          · have : rep cn z.cells = [] := List.length_eq_zero_iff.1 (by rw [length_rep, hzl, h0])
            rw [this, h0]; simpa using VRs.nil
          · exact hrow
        have fin : ∀ zs : Array Value, (cn * (n + 1) = 0 ∧ zs = #[] ∨ zs = zv.cells) → Yields P γ ρ s w (do pure (.slice (some (← newRow e ((Array.range (cn * (n + 1))).map (zs[· % zs.size]!)))) ln cn)) (.sl s.next 0 ln cn true) (s.new (rowOf (rep cn z.cells) e 0)) :=
          fun zs hzs' => newRow_val h (key zs hzs') hn rfl
        have hcn0 : ¬ (Int.ofNat cn < 0) := by simp
        have hln0 : ¬ (Int.ofNat ln < 0) := by simp
        have hlc : ¬ (Int.ofNat ln > Int.ofNat cn) := by simpa using h1
        have hbad : (decide (Int.ofNat cn < 0) || decide ((i.bytes : Int) * Int.ofNat cn > 2 ^ 48) || decide (Int.ofNat ln < 0) || decide (Int.ofNat ln > Int.ofNat cn)) = false := by
          simp only [Bool.or_eq_false_iff, decide_eq_false_iff_not]
          exact ⟨⟨⟨hcn0, hlarge cn (Nat.le_refl _)⟩, hln0⟩, hlc⟩
        have run : ∀ w, (Instr.makeSlice t (.int kl (Int.ofNat ln)) (.int kc (Int.ofNat cn))).run P w = (do
            let zs ← (if cn * (n + 1) = 0 then pure #[] else do pure (← zeroValue e).cells : Sem (Array Value))
            pure (.slice (some (← newRow e ((Array.range (cn * (n + 1))).map (zs[· % zs.size]!)))) ln cn) : Sem Value).run P w := by
          intro w
          unfold Instr.makeSlice
          simp only [Sem.run_bind, run_underlying (sliceT_eq ht), Result.andThen_ok, asInt, run_typeInfo (infoI_eq hi), run_asIntOf, Sem.run_pure, wrap_small h2, wrap_small (Nat.le_trans h1 h2), hbad, Bool.false_eq_true, if_false]
          simp only [Sem.run_bind, run_askRoom, Result.andThen_ok, run_sizeOf hn]
          have e1 : (Int.ofNat cn).toNat = cn := rfl
          have e2 : (Int.ofNat ln).toNat = ln := rfl
          simp only [e1, e2]
          split
          · rfl
          · simp only [Sem.run_bind, hzrun, Result.andThen_ok, Sem.run_pure]
        have base : Yields P γ ρ s w (do
            let zs ← (if cn * (n + 1) = 0 then pure #[] else do pure (← zeroValue e).cells : Sem (Array Value))
            pure (.slice (some (← newRow e ((Array.range (cn * (n + 1))).map (zs[· % zs.size]!)))) ln cn) : Sem Value) (.sl s.next 0 ln cn true) (s.new (rowOf (rep cn z.cells) e 0)) := by
          by_cases h0 : cn * (n + 1) = 0
          · obtain ⟨v', w', ρ', hr1, hr2⟩ := fin #[] (.inl ⟨h0, rfl⟩)
            refine ⟨v', w', ρ', ?_, hr2⟩
            rw [Sem.run_bind, if_pos h0]
            exact hr1
          · obtain ⟨v', w', ρ', hr1, hr2⟩ := fin zv.cells (.inr rfl)
            refine ⟨v', w', ρ', ?_, hr2⟩
            rw [Sem.run_bind, if_neg h0]
            simp only [Sem.run_bind, hzrun, Result.andThen_ok, Sem.run_pure]
            simpa only [Sem.run_bind, Sem.run_pure] using hr1
        obtain ⟨v', w', ρ', hr1, hr2⟩ := base
        exact ⟨v', w', ρ', (run w).trans hr1, hr2⟩

/- addresses -/
theorem fieldT_eq {t f : Nat} {fd : Field} (h : fieldT P t f = some fd) : ∃ fs, P.underlying t = some (.struct fs) ∧ fs[f]? = some fd := by
  unfold fieldT at h
  split at h
  · rename_i fs hu; exact ⟨fs, undI_eq hu, h⟩
  · cases h
theorem fieldAddr_sim {ρ : Rho} {s s' : St} {w : World} {t f n : Nat} {fd : Field} {x v : IV} {x' : Value} (h : Rel P γ ρ s w) (hf : fieldT P t f = some fd) (hn : size P fd.type = some (n + 1)) (hx : VR ρ γ x x') (hr : addrV fd.offset x s = .ok v s') :
    Yields P γ ρ s w (Instr.fieldAt t x' f) v s' := by
  cases hx <;> (try (simp [addrV, IV.onPtr] at hr; done))
  rename_i b o p hb
  change R.ok (.ptr b (o + fd.offset)) s = .ok v s' at hr
  cases hr
  obtain ⟨fs, hu, hfd⟩ := fieldT_eq hf
  refine Yields.same h ?_ (.ptr b (o + fd.offset) p hb)
  unfold Instr.fieldAt Instr.sureAddr fieldPlace
  simp only [Sem.run_bind, run_underlying hu, Result.andThen_ok, hfd, Sem.run_pure, run_sizeOf hn]
  rw [if_neg (by omega), add_none]
  simp only [Sem.run_pure, Result.andThen_ok, Nat.add_assoc]
theorem field_sim {ρ : Rho} {s s' : St} {w : World} {t f : Nat} {fd : Field} {x v : IV} {x' : Value} (h : Rel P γ ρ s w) (hf : fieldT P t f = some fd) (hx : VR ρ γ x x') (hr : partV P fd.type fd.offset x s = .ok v s') :
    Yields P γ ρ s w (Instr.field t x' f) v s' := by
  cases hx <;> (try (simp [partV] at hr; done))
  rename_i l a hl
  obtain ⟨fs, hu, hfd⟩ := fieldT_eq hf
  simp only [partV] at hr
  cases hp : Eng.part P fd.type l fd.offset with
  | none => rw [hp] at hr; cases hr
  | some q =>
    rw [hp] at hr
    change R.ok q s = .ok v s' at hr
    cases hr
    obtain ⟨v', h1, h2⟩ := part_sim (P := P) (w := w) hl hp
    refine Yields.same h ?_ h2
    unfold Instr.field
    simp only [Sem.run_bind, run_underlying hu, Result.andThen_ok, hfd, asAgg, Sem.run_pure, h1]

theorem index_range {i n : Nat} (h : i < n) : (0 : Int) ≤ Int.ofNat i ∧ Int.ofNat i < (n : Int) := ⟨Int.natCast_nonneg i, Int.ofNat_lt.2 h⟩

theorem atSl_sim {ρ : Rho} {s s' : St} {w : World} {t e sz : Nat} {x i v : IV} {x' i' : Value} (h : Rel P γ ρ s w) (hu : undI P t = some (.slice e)) (hn : size P e = some sz) (hx : VR ρ γ x x') (hi : VR ρ γ i i') (hr : atSl sz x i s = .ok v s') :
    Yields P γ ρ s w (Instr.indexAt t x' i') v s' := by
  cases hi <;> (try (simp [atSl, IV.onInt] at hr; done))
  rename_i k m
  cases m with
  | negSucc m => simp [atSl, IV.onInt] at hr
  | ofNat m =>
    have hx0 := hx
    cases x <;> (try (simp [atSl, IV.onInt, IV.onSl] at hr; done))
    rename_i b o n c ex
    change Bool.rec (motive := fun _ => R) .no (.ok (.ptr b (o + m * sz)) s) (Nat.ble (m + 1) n) = .ok v s' at hr
    cases hb : Nat.ble (m + 1) n with
    | false => rw [hb] at hr; cases hr
    | true =>
      rw [hb] at hr; cases hr
      have hlt := Nat.le_of_ble_eq_true hb
      obtain ⟨p, off, c', hb, rfl, hoff, _⟩ := hx.sl_inv
      have : off = p.shift + o := hoff.resolve_left (by omega)
      subst this
      refine Yields.same h ?_ (.ptr b (o + m * sz) p hb)
      unfold Instr.indexAt
      simp only [Sem.run_bind, run_asIntOf, run_underlying (undI_eq hu), Result.andThen_ok, Sem.run_pure]
      rw [if_pos (index_range hlt)]
      simp only [Sem.run_bind, run_sizeOf hn, Result.andThen_ok, Sem.run_pure, add_none]
      simp [Nat.add_assoc]

theorem atArr_sim {ρ : Rho} {s s' : St} {w : World} {t n e sz : Nat} {x i v : IV} {x' i' : Value} (h : Rel P γ ρ s w) (hu : undI P t = some (.array n e)) (hn : size P e = some sz) (hx : VR ρ γ x x') (hi : VR ρ γ i i') (hr : atArr n sz x i.nat s = .ok v s') :
    Yields P γ ρ s w (Instr.indexAt t x' i') v s' := by
  cases hin : i.nat with
  | none => simp [atArr, hin] at hr
  | some m =>
    obtain ⟨k, rfl⟩ := nat_inv hi hin
    rw [hin] at hr
    cases hx <;> (try (simp [atArr] at hr; done))
    rename_i b o p hb
    simp only [atArr] at hr
    cases hbl : Nat.blt m n with
    | false => rw [hbl] at hr; cases hr
    | true =>
      rw [hbl] at hr; cases hr
      have hlt : m < n := by simpa [Nat.blt_eq] using hbl
      refine Yields.same h ?_ (.ptr b (o + m * sz) p hb)
      unfold Instr.indexAt
      simp only [Sem.run_bind, run_asIntOf, run_underlying (undI_eq hu), Result.andThen_ok, Instr.sureAddr, Sem.run_pure]
      rw [if_pos (index_range hlt)]
      simp only [Sem.run_bind, run_sizeOf hn, Result.andThen_ok, Sem.run_pure, add_none]
      simp [Nat.add_assoc]

theorem atStr_sim {ρ : Rho} {s s' : St} {w : World} {t : Nat} {x i v : IV} {x' i' : Value} (h : Rel P γ ρ s w) (hu : undI P t = some .string) (hx : VR ρ γ x x') (hi : VR ρ γ i i') (hr : atStr x i.nat s = .ok v s') :
    Yields P γ ρ s w (Instr.index t x' i') v s' := by
  cases hin : i.nat with
  | none => simp [atStr, hin] at hr
  | some m =>
    obtain ⟨k, rfl⟩ := nat_inv hi hin
    rw [hin] at hr
    cases hx <;> (try (simp [atStr] at hr; done))
    · rename_i bs l hl
      simp only [atStr] at hr
      rw [nth_eq] at hr
      cases hg : l[m]? with
      | none => rw [hg] at hr; cases hr
      | some c =>
        rw [hg] at hr; cases hr
        subst hl
        rw [List.getElem?_map] at hg
        cases hq : bs.data.toList[m]? with
        | none => rw [hq] at hg; cases hg
        | some b =>
          rw [hq] at hg; cases hg
          have hlt : m < bs.size := by
            have := (List.getElem?_eq_some_iff.1 hq).1
            simpa using this
          refine Yields.same h (v' := .int .u8 b.toNat) ?_ (.int _ _)
          unfold Instr.index
          simp only [Sem.run_bind, run_asIntOf, run_underlying (undI_eq hu), Result.andThen_ok]
          have h0 : (0 : Int) ≤ Int.ofNat m := Int.natCast_nonneg m
          simp only [if_pos h0]
          have hbm : bs[(Int.ofNat m).toNat]? = some b := by
            show bs[m]? = some b
            rw [getElem?_pos bs m hlt]
            have : bs.data.toList[m]? = some bs[m] := by
              have hlt' : m < bs.data.toList.length := by simpa using hlt
              rw [List.getElem?_eq_getElem hlt']
              rfl
            rw [hq] at this
            exact this.symm
          rw [hbm]
          rfl
    · rename_i bs l hl hcs
      simp only [atStr] at hr
      rw [nth_eq] at hr
      cases hg : l[m]? with
      | none => rw [hg] at hr; cases hr
      | some c =>
        rw [hg] at hr; cases hr
        have hg2 : (l.map (den γ))[m]? = some (den γ c) := by rw [List.getElem?_map, hg]; rfl
        rw [← hl, List.getElem?_map] at hg2
        cases hq : bs.data.toList[m]? with
        | none => rw [hq] at hg2; cases hg2
        | some b =>
          rw [hq] at hg2
          have hbn : b.toNat = den γ c := Option.some.inj hg2
          have hlt : m < bs.size := by
            have := (List.getElem?_eq_some_iff.1 hq).1
            simpa using this
          refine Yields.same h (v' := .int .u8 b.toNat) ?_ (codeI_sim (hcs c (List.mem_of_getElem? hg)) hbn)
          unfold Instr.index
          simp only [Sem.run_bind, run_asIntOf, run_underlying (undI_eq hu), Result.andThen_ok]
          have h0 : (0 : Int) ≤ Int.ofNat m := Int.natCast_nonneg m
          simp only [if_pos h0]
          have hbm : bs[(Int.ofNat m).toNat]? = some b := by
            show bs[m]? = some b
            rw [getElem?_pos bs m hlt]
            have : bs.data.toList[m]? = some bs[m] := by
              have hlt' : m < bs.data.toList.length := by simpa using hlt
              rw [List.getElem?_eq_getElem hlt']
              rfl
            rw [hq] at this
            exact this.symm
          rw [hbm]
          rfl

theorem atAgg_sim {ρ : Rho} {s s' : St} {w : World} {t n e sz : Nat} {x i v : IV} {x' i' : Value} (h : Rel P γ ρ s w) (hu : undI P t = some (.array n e)) (hn : size P e = some sz) (hx : VR ρ γ x x') (hi : VR ρ γ i i') (hr : atAgg P n e sz x i.nat s = .ok v s') :
    Yields P γ ρ s w (Instr.index t x' i') v s' := by
  cases hin : i.nat with
  | none => simp [atAgg, hin] at hr
  | some m =>
    obtain ⟨k, rfl⟩ := nat_inv hi hin
    rw [hin] at hr
    cases hx <;> (try (simp [atAgg] at hr; done))
    rename_i l a hl
    simp only [atAgg] at hr
    cases hbl : Nat.blt m n with
    | false => rw [hbl] at hr; cases hr
    | true =>
      rw [hbl] at hr
      have hlt : m < n := by simpa [Nat.blt_eq] using hbl
      cases hp : Eng.part P e l (m * sz) with
      | none => simp only [Nat.mul_eq] at hr; rw [hp] at hr; cases hr
      | some q =>
        simp only [Nat.mul_eq] at hr
        rw [hp] at hr
        change R.ok q s = .ok v s' at hr
        cases hr
        obtain ⟨v', h1, h2⟩ := part_sim (P := P) (w := w) hl hp
        refine Yields.same h ?_ h2
        unfold Instr.index
        simp only [Sem.run_bind, run_asIntOf, run_underlying (undI_eq hu), Result.andThen_ok]
        rw [if_pos (index_range hlt)]
        simp only [Sem.run_bind, run_sizeOf hn, Result.andThen_ok]
        exact h1
end Go.Eng
