/- A part of the proof: an interpreter of the program, shown right once, and the laws that it computes. -/
import Derived.Test.YtpanfhfcpniodaaGreatDoorEng13
set_option linter.constructorNameAsVariable false
set_option linter.unusedVariables false
set_option linter.unusedSimpArgs false
namespace Go.Eng
variable {P : Program} {γ : Gam}

/-- Parts of a value, by their places. -/
def PR (ρ : Rho) (γ : Gam) (ps : List (Nat × IV)) (ps' : List (Nat × Value)) : Prop := ps.map (·.1) = ps'.map (·.1) ∧ VRs ρ γ (ps.map (·.2)) (ps'.map (·.2))

theorem run_mapM_fields (w : World) : ∀ (fs : List Field) (ns : List Nat), (fs.map fun f => size P f.type) = ns.map some →
    (fs.mapM (m := Sem) fun f => do pure (f.offset, ← sizeOf f.type)).run P w = .ok (fs.zip ns |>.map fun (f, n) => (f.offset, n)) w
  | [], [], _ => rfl
  | f :: fs, n :: ns, h => by
    simp only [List.map_cons, List.cons.injEq] at h
    simp only [List.mapM_cons, Sem.run_bind, run_sizeOf h.1, Result.andThen_ok, Sem.run_pure, run_mapM_fields w fs ns h.2, List.zip_cons_cons, List.map_cons]
  | [], _ :: _, h => by simp at h
  | _ :: _, [], h => by simp at h

theorem fill_congr {place place' : Nat → Option (Nat × Nat)} : ∀ {ps : List (Nat × IV)} {cells r : List IV}, Eng.fill place cells ps = some r → (∀ i q, place i = some q → place' i = some q) → Eng.fill place' cells ps = some r
  | [], cells, r, h, _ => h
  | (i, v) :: ps, cells, r, h, hp => by
    unfold Eng.fill at h ⊢
    cases hq : place i with
    | none => simp [hq] at h
    | some q =>
      rw [hp i q hq]
      obtain ⟨off, sz⟩ := q
      simp only [hq] at h ⊢
      cases hb : Nat.beq v.cells.length sz with
      | false => simp [hb] at h
      | true =>
        simp only [hb] at h ⊢
        cases hc : putL cells off v.cells with
        | none => simp [hc] at h
        | some c =>
          simp only [hc] at h ⊢
          exact fill_congr h hp

theorem sized_get {fs : Array Field} (h : sized P fs = true) : ∃ ns : List Nat, (fs.toList.map fun f => size P f.type) = ns.map some := by
  unfold sized at h
  generalize fs.toList = l at h
  induction l with
  | nil => exact ⟨[], rfl⟩
  | cons f l ih =>
    simp only [List.all_cons, Bool.and_eq_true] at h
    obtain ⟨ns, hns⟩ := ih h.2
    cases hs : size P f.type with
    | none => simp [hs] at h
    | some n => exact ⟨n :: ns, by simp [hs, hns]⟩

theorem build_sim {ρ : Rho} {s : St} {w : World} {t : Nat} {z : IV} {u : TypeDesc} {ps : List (Nat × IV)} {ps' : Array (Nat × Value)} {c : List IV} (h : Rel P γ ρ s w) (hz : zero P t = some z) (hu : undI P t = some u)
    (hsz : ∀ fs, u = .struct fs → sized P fs = true) (hp : PR ρ γ ps ps'.toList) (hb : buildIn P u z.cells ps = some c) : Yields P γ ρ s w (Instr.build t ps') (.agg c) s := by
  obtain ⟨zv, hzv, hzrun⟩ := run_zeroValue hz
  have hzr := (VR.ofValue (ρ := ρ) (γ := γ) hzv).cells
  unfold buildIn at hb
  split at hb
  · rename_i fs
    obtain ⟨ns, hns⟩ := sized_get (hsz fs rfl)
    have hm := run_mapM_fields (P := P) w fs.toList ns hns
    let places : Array (Nat × Nat) := (fs.toList.zip ns |>.map fun (f, n) => (f.offset, n)).toArray
    have hpl : ∀ i q, fieldPl P fs i = some q → places[i]? = some q := by
      intro i q hq
      unfold fieldPl at hq
      split at hq
      · rename_i f hf
        split at hq
        · rename_i n hn
          cases hq
          have hf' : fs.toList[i]? = some f := by simpa using hf
          have hn' : ns[i]? = some n := by
            have := congrArg (fun l => l[i]?) hns
            simp only [List.getElem?_map, hf', Option.map_some, hn] at this
            cases hni : ns[i]? with
            | none => simp [hni] at this
            | some m => simp [hni] at this; rw [this]
          show (fs.toList.zip ns |>.map fun (f, n) => (f.offset, n)).toArray[i]? = _
          rw [List.getElem?_toArray, List.getElem?_map, (List.getElem?_zip_eq_some (z := (f, n))).2 ⟨hf', hn'⟩]
          rfl
        · cases hq
      · cases hq
    have hb' := fill_congr hb hpl
    obtain ⟨r', h1, h2⟩ := fill_sim (cells' := zv.cells) hzr hp.1 hp.2 hb'
    refine Yields.same h ?_ (.agg _ _ h2)
    unfold Instr.build
    simp only [Sem.run_bind, hzrun, Result.andThen_ok, run_underlying (undI_eq hu)]
    rw [Array.mapM_eq_mapM_toList]
    rw [Sem.run_map, hm]
    simp only [Result.andThen_ok]
    change Sem.run P (match Instr.fill (places[·]?) zv.cells ps'.toList with
      | some cells => pure (Value.agg cells)
      | _ => stuck "build: no such field, or a part of the wrong size") w = _
    rw [h1]
    rfl
  · rename_i n e
    cases hs : size P e with
    | none => simp [hs] at hb
    | some k =>
      simp only [hs] at hb
      obtain ⟨r', h1, h2⟩ := fill_sim (cells' := zv.cells) hzr hp.1 hp.2 hb
      refine Yields.same h ?_ (.agg _ _ h2)
      unfold Instr.build
      simp only [Sem.run_bind, hzrun, Result.andThen_ok, run_underlying (undI_eq hu), run_sizeOf hs, h1, Sem.run_pure]
  · cases hb

theorem rep_zero (l : List IV) : rep 0 l = [] := rfl
theorem rep_succ (n : Nat) (l : List IV) : rep (n + 1) l = l ++ rep n l := rfl
theorem length_rep (n : Nat) (l : List IV) : (rep n l).length = n * l.length := by
  induction n with
  | zero => simp [rep_zero]
  | succ n ih => rw [rep_succ, List.length_append, ih, Nat.succ_mul]; omega
theorem get_rep (n : Nat) (l : List IV) : ∀ (k : Nat), k < n * l.length → (rep n l)[k]? = l[k % l.length]? := by
  induction n with
  | zero => intro k h; simp at h
  | succ n ih =>
    intro k h
    rw [rep_succ]
    by_cases hk : k < l.length
    · rw [List.getElem?_append_left hk, Nat.mod_eq_of_lt hk]
    · rw [List.getElem?_append_right (by omega), ih (k - l.length) (by rw [Nat.succ_mul] at h; omega)]
      rw [← Nat.mod_eq_sub_mod (by omega)]
/-- A row of zero values. -/
theorem rep_sim {ρ : Rho} {l : List IV} {zs : Array Value} {m n : Nat} (hl : VRs ρ γ l zs.toList) (hm : m = n * zs.size) : VRs ρ γ (rep n l) ((Array.range m).map (zs[· % zs.size]!)).toList := by
  have hll := hl.length
  simp only [Array.length_toList] at hll
  refine VRs.of_get (by rw [length_rep, hll]; simp [hm]) ?_
  intro k v hk
  have hlt : k < n * l.length := by
    have := (List.getElem?_eq_some_iff.1 hk).1
    rwa [length_rep] at this
  rw [get_rep n l k hlt] at hk
  obtain ⟨v', h1, h2⟩ := hl.get hk
  refine ⟨v', ?_, h2⟩
  have hkm : k < m := by rw [hm, ← hll]; exact hlt
  simp only [Array.toList_map, Array.toList_range, List.getElem?_map, List.getElem?_range hkm, Option.map_some]
  rw [hll] at h1
  have : zs[k % zs.size]? = some v' := by simpa using h1
  rw [Array.getElem!_eq_getD, Array.getD_eq_getD_getElem?, this]
  rfl

theorem newRow_val {ρ : Rho} {s : St} {w : World} {e n len cap : Nat} {l : List IV} {arr : Array Value} (h : Rel P γ ρ s w) (hv : VRs ρ γ l arr.toList) (hn : size P e = some n) {m : Sem Value}
    (hm : m = (do pure (.slice (some (← newRow e arr)) len cap))) : Yields P γ ρ s w m (.sl s.next 0 len cap true) (s.new (rowOf l e 0)) := by
  obtain ⟨p, hp1, hp2, hp3, hp4, h1, h2, hle, hself⟩ := h.row_new (str := 0) hv hn []
  subst hm
  refine ⟨.slice (some ⟨w.heap.size, 0, none⟩) len cap, _, _, ?_, h2, h1, ?_⟩
  · simp only [Sem.run_bind, run_newRow, Result.andThen_ok, Sem.run_pure, List.append_nil, Array.toArray_toList]
  · have := VR.slx (ρ := ρ.with s.next p) (γ := γ) s.next 0 len cap p hself
    rw [hp1, hp2] at this
    exact this

theorem buildSlice_sim {ρ : Rho} {s : St} {w : World} {t e n len : Nat} {z : IV} {ps : List (Nat × IV)} {ps' : Array (Nat × Value)} {c : List IV} (h : Rel P γ ρ s w) (ht : sliceT P t = some e) (hz : zero P e = some z) (hn : size P e = some n)
    (hle : len * n ≤ 10000) (hzl : z.cells.length = n) (hp : PR ρ γ ps ps'.toList) (hb : Eng.fill (fun i => some (i * n, n)) (rep len z.cells) ps = some c) : Yields P γ ρ s w (Instr.buildSlice t len ps') (.sl s.next 0 len len true) (s.new (rowOf c e 0)) := by
  have hu : undI P t = some (.slice e) := by
    unfold sliceT at ht
    split at ht
    · rename_i e' hu; cases ht; exact hu
    · cases ht
  obtain ⟨zv, hzv, hzrun⟩ := run_zeroValue hz
  have hzr := (VR.ofValue (ρ := ρ) (γ := γ) hzv).cells
  have hzs : zv.cells.size = n := by have := hzr.length; simp at this; omega
  have hnb : ¬ (len * n > 2 ^ 24) := by omega
  let zs : Array Value := if len * n = 0 then #[] else zv.cells
  have hzrun' : (if len * n = 0 then pure #[] else do pure (← zeroValue e).cells : Sem (Array Value)).run P w = .ok zs w := by
    show _ = Result.ok (if len * n = 0 then #[] else zv.cells) w
    by_cases h0 : len * n = 0
    · simp [h0]
    · simp [h0, hzrun]
  have hrow : VRs ρ γ (rep len z.cells) ((Array.range (len * n)).map (zs[· % zs.size]!)).toList := by
    by_cases h0 : len * n = 0
    · have : rep len z.cells = [] := List.length_eq_zero_iff.1 (by rw [length_rep, hzl, h0])
      rw [this, h0]; simpa using VRs.nil
    · have : zs = zv.cells := if_neg h0
      rw [this]
      exact rep_sim hzr (by rw [hzs])
  obtain ⟨r', h1, h2⟩ := fill_sim hrow hp.1 hp.2 hb
  obtain ⟨v', w', ρ', hr1, hr2⟩ := newRow_val (len := len) (cap := len) h h2 hn rfl
  refine ⟨v', w', ρ', ?_, hr2⟩
  unfold Instr.buildSlice
  simp only [Sem.run_bind, run_underlying (undI_eq hu), Result.andThen_ok, run_sizeOf hn, if_neg hnb]
  by_cases h0 : len * n = 0
  · have hz0 : zs = #[] := if_pos h0
    rw [hz0] at h1
    simp only [if_pos h0, Sem.run_bind, Sem.run_pure, Result.andThen_ok, h1]
    simpa only [Sem.run_bind, Sem.run_pure] using hr1
  · have hz0 : zs = zv.cells := if_neg h0
    rw [hz0] at h1
    simp only [if_neg h0, Sem.run_bind, hzrun, Sem.run_pure, Result.andThen_ok, h1]
    simpa only [Sem.run_bind, Sem.run_pure] using hr1
end Go.Eng
