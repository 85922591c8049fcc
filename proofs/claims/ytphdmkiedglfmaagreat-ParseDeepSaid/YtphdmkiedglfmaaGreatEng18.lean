/- A part of the proof: an interpreter of the program, shown right once, and the laws that it computes. -/
import Derived.Test.YtphdmkiedglfmaaGreatEng17
import Derived.Lib.UnsafeStr
set_option linter.constructorNameAsVariable false
set_option linter.unusedVariables false
set_option linter.unusedSimpArgs false
namespace Go.Eng
variable {P : Program} {γ : Gam}

theorem growBy_le : ∀ (r newLen c : Nat), Builtin.growBy newLen r c ≤ max c (newLen + (newLen + 768) / 4)
  | 0, newLen, c => by unfold Builtin.growBy; omega
  | r + 1, newLen, c => by
    unfold Builtin.growBy
    split
    · omega
    · have := growBy_le r newLen (c + (c + 768) / 4); omega
theorem nextcap_le {need c : Nat} (h : c < need) : Builtin.nextslicecap need c ≤ 4 * need + 4000 := by
  unfold Builtin.nextslicecap
  split
  · omega
  · split
    · omega
    · have := growBy_le 4 need c; omega

theorem room_inv {e need : Nat} (h : roomOk P e need = true) : ∃ i k, infoI P e = some i ∧ i.bytes = k + 1 ∧ (4 * need + 4000) * (k + 1) ≤ 2 ^ 48 := by
  unfold roomOk at h
  cases hb : bytesT P e with
  | zero => simp [hb] at h
  | succ k =>
    simp only [hb] at h
    unfold bytesT at hb
    cases hi : infoI P e with
    | none => simp [hi] at hb
    | some i => simp [hi] at hb; exact ⟨i, k, rfl, hb, Nat.le_of_ble_eq_true h⟩

/-- What is appended, or copied. -/
theorem source_sim {ρ : Rho} {s : St} {w : World} {sz m : Nat} {y : IV} {y' : Value} {new : List IV} (h : Rel P γ ρ s w) (hy : VR ρ γ y y') (hr : sourceOf s sz y = .mk new m) :
    new.length = m * sz ∧ (∀ w', w'.heap = w.heap → (Builtin.lenOf y').run P w' = .ok m w') ∧ ∃ new', (∀ w', w'.heap = w.heap → (Builtin.firstCells sz m y').run P w' = .ok new' w') ∧ VRs ρ γ new new'.toList := by
  unfold sourceOf at hr
  cases y <;> simp only at hr <;> (try (cases hr; done))
  · rename_i l
    split at hr
    · cases hr
      cases hy with
      | str bs _ hl =>
        subst hl
        have hlen : (bs.data.toList.map UInt8.toNat).length = bs.size := by simp
        rw [length_bytesI, hlen]
        refine ⟨by simp, fun w' _ => rfl, (bs.extract 0 bs.size).data.map fun b => .int .u8 b.toNat, fun w' _ => rfl, ?_⟩
        have : (bs.extract 0 bs.size) = bs := by
          apply ByteArray.ext
          rw [ByteArray.data_extract]
          have : bs.size = bs.data.size := rfl
          rw [this]; simp
        rw [this, Array.toList_map]
        exact bytesI_sim _
    · cases hr
  · cases hr
    cases hy
    exact ⟨by simp, fun w' _ => rfl, #[], fun w' _ => rfl, .nil⟩
  · rename_i b o n c ex
    unfold srcOf at hr
    cases hrd : s.rd b o (n * sz) with
    | none => simp only [Nat.mul_eq] at hr; rw [hrd] at hr; cases hr
    | some l =>
      simp only [Nat.mul_eq] at hr
      rw [hrd] at hr
      simp only at hr
      cases hr
      obtain ⟨c1, len, e1, fz, str, hg, hle, rfl⟩ := rd_some hrd
      obtain ⟨p, off, c', hb, rfl, hoff, _⟩ := hy.sl_inv
      refine ⟨length_rdC _ _ _, fun w' _ => rfl, ?_⟩
      obtain ⟨arr, e2, fr, h1, h2, h3⟩ := h.rd hb hrd
      by_cases hz : m = 0
      · subst hz
        refine ⟨#[], fun w' hw => ?_, ?_⟩
        · show (loadCells _ (0 * sz)).run P w' = _
          rw [Nat.zero_mul]; rfl
        · rw [Nat.zero_mul]; exact .nil
      · have := hoff.resolve_left hz
        subst this
        exact ⟨_, fun w' hw => run_loadCells (by rw [hw]; exact h1) h2, h3⟩

theorem get_growRow (c : PT IV) (len o n sz m : Nat) (new : List IV) (hnew : new.length = m * sz) (j : Nat) (hj : j < (n + m) * sz) :
    PT.get undefI (growRow c len o n sz m new) j = if h : j < n * sz then PT.get undefI c (o + j) else new[j - n * sz]'(by rw [Nat.add_mul] at hj; omega) := by
  rw [Nat.add_mul] at hj
  unfold growRow
  cases hb : (Nat.beq o 0 && Nat.ble len (Nat.mul (Nat.add n m) sz)) with
  | true =>
    simp only [Bool.and_eq_true] at hb
    have ho := Nat.eq_of_beq_eq_true hb.1
    subst ho
    simp only [Nat.mul_eq]
    rw [get_wrC]
    by_cases h : j < n * sz
    · rw [dif_pos h, dif_neg (by omega), Nat.zero_add]
    · rw [dif_neg h, dif_pos (by omega)]
  | false =>
    simp only [Nat.mul_eq]
    rw [get_wrC]
    by_cases h : j < n * sz
    · rw [dif_pos h, dif_neg (by omega), get_wrC, dif_pos (by rw [length_rdC]; omega)]
      have hk : j - 0 < (rdC c (n * sz) o).length := by rw [length_rdC]; omega
      have := get_rdC c (n * sz) o (j - 0) (by omega)
      rw [List.getElem?_eq_getElem hk] at this
      rw [Option.some.inj this, Nat.sub_zero]
    · rw [dif_neg h, dif_pos (by omega)]

/-- What the model's append does where it makes a new row. -/
theorem append_grows {w : World} {ts : Array TypeId} {rt t0 t1 e sz n c' m : Nat} {d : TypeDesc} {base : Option Addr} {y' : Value} {i : TypeInfo} {k : Nat} {zv : Value} {old' new' : Array Value}
    (ht0 : ts[0]? = some t0) (hu0 : P.underlying t0 = some (.slice e)) (ht1 : ts[1]? = some t1) (hu1 : P.underlying t1 = some d) (hd : ∀ q, d ≠ .int q) (hsz : size P e = some sz) (hi : infoI P e = some i) (hk : i.bytes = k + 1) (hroom : (4 * (n + m) + 4000) * (k + 1) ≤ 2 ^ 48)
    (hz : ∀ w, (zeroValue e).run P w = .ok zv w) (hm : (Builtin.lenOf y').run P w = .ok m w) (hgt : c' < n + m)
    (hold : (Builtin.firstCells sz n (.slice base n c')).run P (drawn w) = .ok old' (drawn w)) (hnew : (Builtin.firstCells sz m y').run P (drawn w) = .ok new' (drawn w)) :
    ∃ newCap, n + m ≤ newCap ∧ (Builtin.append_ ts rt #[.slice base n c', y']).run P w =
      .ok (.slice (some ⟨w.heap.size, 0, none⟩) (n + m) newCap) (pushed (drawn w) (.cells (old' ++ new' ++ Builtin.zeroCells zv.cells (newCap - (n + m))) e)) := by
  refine ⟨(n + m) + w.tape w.drawn (.appendCap (n + m) c' e) % (2 ^ 63 - (n + m)), Nat.le_add_right _ _, ?_⟩
  have hch : (choose (.appendCap (n + m) c' e)).run P w = .ok ((n + m) + w.tape w.drawn (.appendCap (n + m) c' e) % (2 ^ 63 - (n + m))) (drawn w) := by
    simp only [run_choose, Question.forced, Bool.false_eq_true, if_false]; rfl
  generalize (n + m) + w.tape w.drawn (.appendCap (n + m) c' e) % (2 ^ 63 - (n + m)) = newCap at hch ⊢
  have hnz : (match d with | .int _ => true | _ => false) = false := by cases d <;> first | rfl | exact absurd rfl (hd _)
  have hbig : ¬ (Builtin.nextslicecap (n + m) c' * i.bytes > 2 ^ 48) := by
    rw [hk]
    have := Nat.mul_le_mul_right (k + 1) (nextcap_le hgt)
    omega
  have hb0 : ¬ (i.bytes = 0) := by omega
  unfold Builtin.append_
  simp only [ht0, ht1, List.getElem?_toArray, List.getElem?_cons_zero, List.getElem?_cons_succ, Sem.run_bind, run_underlying hu0, run_underlying hu1, Result.andThen_ok, run_sizeOf hsz, Sem.run_pure, hnz, Bool.false_eq_true, if_false, hm,
    run_typeInfo (infoI_eq hi), if_neg (show ¬ (n + m ≤ c') by omega), false_or, hb0, and_false, if_neg hbig, hch, run_askRoom, hold, Bool.not_false, if_true, hnew, hz, run_newRow]
  rfl

/-- What the model's append does where it makes a row of zeros. -/
theorem append_growsZ {w : World} {ts : Array TypeId} {rt t0 t1 e sz m : Nat} {q : IntKind} {i : TypeInfo} {k : Nat} {zv : Value}
    (ht0 : ts[0]? = some t0) (hu0 : P.underlying t0 = some (.slice e)) (ht1 : ts[1]? = some t1) (hu1 : P.underlying t1 = some (.int q)) (hsz : size P e = some sz) (hsz0 : sz ≠ 0) (hi : infoI P e = some i) (hk : i.bytes = k + 1) (hroom : (4 * (m + 1) + 4000) * (k + 1) ≤ 2 ^ 48)
    (hz : ∀ w, (zeroValue e).run P w = .ok zv w) :
    ∃ newCap, m + 1 ≤ newCap ∧ (Builtin.append_ ts rt #[.slice none 0 0, .int .i64 ((m + 1 : Nat) : Int)]).run P w =
      .ok (.slice (some ⟨w.heap.size, 0, none⟩) (m + 1) newCap) (pushed (drawn w) (.cells (#[] ++ Builtin.zeroCells zv.cells (m + 1) ++ Builtin.zeroCells zv.cells (newCap - (m + 1))) e)) := by
  refine ⟨(m + 1) + w.tape w.drawn (.appendCap (m + 1) 0 e) % (2 ^ 63 - (m + 1)), Nat.le_add_right _ _, ?_⟩
  have hch : (choose (.appendCap (m + 1) 0 e)).run P w = .ok ((m + 1) + w.tape w.drawn (.appendCap (m + 1) 0 e) % (2 ^ 63 - (m + 1))) (drawn w) := by
    simp only [run_choose, Question.forced, Bool.false_eq_true, if_false]; rfl
  generalize (m + 1) + w.tape w.drawn (.appendCap (m + 1) 0 e) % (2 ^ 63 - (m + 1)) = newCap at hch ⊢
  have hbig : ¬ (Builtin.nextslicecap (m + 1) 0 * i.bytes > 2 ^ 48) := by
    rw [hk]
    have := Nat.mul_le_mul_right (k + 1) (nextcap_le (show 0 < m + 1 by omega))
    omega
  have hb0 : ¬ (i.bytes = 0) := by omega
  have hm1 : 4 * (m + 1) + 4000 ≤ 2 ^ 48 := Nat.le_trans (Nat.le_mul_of_pos_right _ (by omega)) hroom
  have hwrap : IntKind.i64.wrap ((m + 1 : Nat) : Int) = ((m + 1 : Nat) : Int) := by
    unfold IntKind.wrap; simp [IntKind.signed, IntKind.bits]; omega
  have hlt : ¬ (((m + 1 : Nat) : Int) < 0) := by omega
  have hmb : (m + 1) * (k + 1) ≤ 2 ^ 48 := Nat.le_trans (Nat.mul_le_mul_right _ (by omega)) hroom
  have hbig2 : ¬ (((m + 1 : Nat) : Int) * (i.bytes : Int) > 2 ^ 48) := by
    rw [hk]
    have : (((m + 1) * (k + 1) : Nat) : Int) ≤ ((2 ^ 48 : Nat) : Int) := Int.ofNat_le.2 hmb
    rw [Int.natCast_mul] at this
    omega
  have hmax : ¬ (((m + 1 : Nat) : Int) > IntKind.i64.max) := by
    simp [IntKind.max, IntKind.signed, IntKind.bits]; omega
  have hns : ¬ ((m + 1) * sz = 0) := by
    intro h0
    rcases Nat.mul_eq_zero.1 h0 with h0 | h0 <;> omega
  have hai : ∀ w', (asInt (.int .i64 ((m + 1 : Nat) : Int))).run P w' = .ok ((m + 1 : Nat) : Int) w' := fun _ => rfl
  have hfc : ∀ w', (Builtin.firstCells sz 0 (.slice none 0 0)).run P w' = .ok #[] w' := fun _ => rfl
  unfold Builtin.append_
  simp only [ht0, ht1, List.getElem?_toArray, List.getElem?_cons_zero, List.getElem?_cons_succ, Sem.run_bind, run_underlying hu0, run_underlying hu1, Result.andThen_ok, run_sizeOf hsz, Sem.run_pure, if_true, hai, hwrap, if_neg hlt, Int.toNat_natCast,
    run_typeInfo (infoI_eq hi), if_neg hbig2, Nat.zero_add, if_neg (show ¬ (m + 1 ≤ 0) by omega), hmax, false_and, if_false, if_neg hbig, hch, run_askRoom, hfc, Bool.not_true, Bool.false_eq_true, if_neg hns, hz, run_newRow]
  rfl
end Go.Eng

set_option linter.constructorNameAsVariable false
set_option linter.unusedVariables false
set_option linter.unusedSimpArgs false
namespace Go.Eng
variable {P : Program} {γ : Gam}

theorem size_zeroCells (z : Array Value) (n : Nat) : (Builtin.zeroCells z n).size = n * z.size := by
  unfold Builtin.zeroCells; simp

theorem notInt_eq {ts : Array TypeId} (h : notIntT P ts = true) : ∃ t1 d, ts[1]? = some t1 ∧ P.underlying t1 = some d ∧ ∀ q, d ≠ .int q := by
  unfold notIntT at h
  split at h
  · cases h
  · rename_i d hne hd
    obtain ⟨t, ht, hu⟩ := argT_eq hd
    exact ⟨t, d, ht, hu, fun q e => by subst e; exact hne _ rfl⟩
  · cases h

theorem elemSz_eq {ts : Array TypeId} {e sz : Nat} (h : elemSz P ts = some (e, sz)) : ∃ t0, ts[0]? = some t0 ∧ P.underlying t0 = some (.slice e) ∧ size P e = some sz ∧ sz ≠ 0 := by
  unfold elemSz at h
  split at h
  · rename_i e' he
    split at h
    · rename_i z hz
      cases h
      obtain ⟨t, ht, hu⟩ := argT_eq he
      exact ⟨t, ht, hu, hz, by omega⟩
    · cases h
  · cases h

/-- A new row, made by an append. -/
theorem grown_new {ρ : Rho} {s : St} {w : World} (fz tag : Nat) (h : Rel P γ ρ s w) {c : PT IV} {e sz len cap tot : Nat} {arr : Array Value} (hsz : size P e = some sz) (hlen : len = tot * sz) (hcap : tot ≤ cap) (harr : arr.size = cap * sz)
    (hc : ∀ ρ', Le ρ ρ' → ∀ j, j < len → ∃ v', arr[j]? = some v' ∧ VR ρ' γ (PT.get undefI c j) v') :
    ∃ ρ', Goes ρ s w ρ' (s.new (.cells c len e fz tag)) (pushed w (.cells arr e)) ∧ Rel P γ ρ' (s.new (.cells c len e fz tag)) (pushed w (.cells arr e)) ∧
      VR ρ' γ (.sl s.next 0 tot tot false) (.slice (some ⟨w.heap.size, 0, none⟩) tot cap) := by
  let p : Pl := ⟨w.heap.size, 0, cap * sz, sz⟩
  have hle := h.le_with p
  have hmul : tot * sz ≤ cap * sz := Nat.mul_le_mul_right _ hcap
  obtain ⟨h1, h2⟩ := h.new (p := p) rfl (x := .cells c len e fz tag) (o := .cells arr e) (by
    refine .cells _ _ _ _ _ _ _ (by show 0 + len ≤ cap * sz; omega) (by show cap * sz ≤ arr.size; omega) ?_ (by intro j _ _ hj; simp at hj) (fun _ => ⟨.inl rfl, fun _ => rfl⟩) (fun _ => rfl) hsz
    intro j hj
    obtain ⟨v', hv1, hv2⟩ := hc _ hle j hj
    exact ⟨v', by show arr[0 + j]? = _; rw [Nat.zero_add]; exact hv1, hv2⟩)
  exact ⟨_, h2, h1, .sli s.next 0 tot tot cap 0 p (Rho.with_self _ _ _) (Nat.le_refl _) hcap (.inl rfl) (by show 0 + cap * sz ≤ cap * sz; omega)⟩

theorem append_sim {ρ : Rho} {s s' : St} {w : World} {ts : Array TypeId} {rt : TypeId} {e sz : Nat} {x y v : IV} {x' y' : Value} (h : Rel P γ ρ s w) (he : elemSz P ts = some (e, sz)) (hni : notIntT P ts = true) (hzi : zeroIs P e sz = true)
    (hx : VR ρ γ x x') (hy : VR ρ γ y y') (hr : Eng.append P e sz s x y = .ok v s') : Yields P γ ρ s w (Builtin.append_ ts rt #[x', y']) v s' := by
  obtain ⟨t0, ht0, hu0, hsz, hsz0⟩ := elemSz_eq he
  obtain ⟨t1, d, ht1, hu1, hd⟩ := notInt_eq hni
  obtain ⟨z, hz, hzl⟩ : ∃ z, zero P e = some z ∧ z.cells.length = sz := by
    unfold zeroIs at hzi
    split at hzi
    · rename_i z hz; exact ⟨z, hz, Nat.eq_of_beq_eq_true hzi⟩
    · cases hzi
  obtain ⟨zv, hzrun, hzr⟩ := zero_rel (P := P) (ρ := ρ) (γ := γ) hz
  have hzs : zv.cells.size = sz := by have := hzr.cells.length; simp at this; omega
  have hnz : (match d with | .int _ => true | _ => false) = false := by cases d <;> first | rfl | exact absurd rfl (hd _)
  unfold Eng.append at hr
  cases hsrc : sourceOf s sz y with
  | no => rw [hsrc] at hr; cases hr
  | mk new m =>
    rw [hsrc] at hr
    simp only at hr
    obtain ⟨hnl, hlen, new', hnew, hnr⟩ := source_sim h hy hsrc
    have hnl' : new'.size = m * sz := by have := hnr.length; simp at this; omega
    unfold appendTo at hr
    cases x <;> simp only at hr <;> (try (cases hr; done))
    · -- nil
      cases hx
      cases m with
      | zero =>
        cases hr
        refine Yields.same h ?_ .nilsl
        unfold Builtin.append_
        simp only [ht0, ht1, List.getElem?_toArray, List.getElem?_cons_zero, List.getElem?_cons_succ, Sem.run_bind, run_underlying hu0, run_underlying hu1, Result.andThen_ok, run_sizeOf hsz, Sem.run_pure, hnz, Bool.false_eq_true, if_false, hlen w rfl,
          Nat.add_zero, Nat.le_refl, if_true, Bool.not_false, hnew w rfl]
      | succ m =>
        simp only at hr
        cases hroom : roomOk P e (m + 1) with
        | false => rw [hroom] at hr; cases hr
        | true =>
          rw [hroom] at hr
          simp only at hr
          injection hr with hv hs
          subst hv hs
          obtain ⟨i, k, hi, hk, hrm⟩ := room_inv hroom
          obtain ⟨newCap, hcap, hrun⟩ := append_grows (P := P) (w := w) (rt := rt) (n := 0) (c' := 0) (base := none) (old' := #[]) ht0 hu0 ht1 hu1 hd hsz hi hk (by simpa using hrm) hzrun (hlen w rfl) (by omega) rfl (hnew (drawn w) rfl)
          simp only [Nat.zero_add] at hcap hrun
          obtain ⟨ρ', h1, h2, h3⟩ := grown_new 0 0 h.drawn (c := wrC new .e 0) (e := e) (len := new.length) (tot := m + 1) (cap := newCap) (arr := #[] ++ new' ++ Builtin.zeroCells zv.cells (newCap - (m + 1))) hsz hnl hcap
            (by simp [size_zeroCells, hnl', hzs]; rw [← Nat.add_mul]; congr 1; omega) (by
              intro ρ' hle j hj
              rw [get_wrC, dif_pos (by omega)]
              have hk' : new[j - 0]? = some (new[j - 0]'(by omega)) := List.getElem?_eq_getElem (by omega)
              obtain ⟨v', hv1, hv2⟩ := hnr.get hk'
              refine ⟨v', ?_, hv2.mono hle⟩
              rw [Array.getElem?_append_left (by simp; omega), Array.getElem?_append_right (by simp)]
              simpa using hv1)
          exact ⟨_, _, ρ', hrun, (Goes.drawn ρ s w).trans h1, h2, h3⟩
    · rename_i b o n c ex
      obtain ⟨p, off, c', hb, rfl, hoff, hcc, hex1, hex2⟩ := hx.sl_inv
      have key : ∀ {v : IV} {s' : St}, (ex = true → c < n + m) → growIn P s e sz b o n m ex new (s.get b) = .ok v s' → Yields P γ ρ s w (Builtin.append_ ts rt #[.slice (some ⟨p.blk, off, none⟩) n c', y']) v s' := by
        clear hr
        intro v s' hnm hr
        unfold growIn at hr
        split at hr <;> (try (cases hr; done))
        rename_i cc len e' fz st hg
        split at hr <;> (try (cases hr; done))
        rename_i hroome
        simp only [Bool.and_eq_true] at hroome
        obtain ⟨hroom, hee⟩ := hroome
        have he' := Nat.eq_of_beq_eq_true hee
        subst he'
        split at hr <;> (try (cases hr; done))
        rename_i hin
        have hin' : o + n * sz ≤ len := Nat.le_of_ble_eq_true hin
        obtain ⟨i, k, hi, hk, hrm⟩ := room_inv hroom
        obtain ⟨arr, fr, hrow, hor⟩ := h.row hb hg
        cases hor with
        | cells _ _ _ _ _ _ _ hl' ha hc hf hs' htg hz' =>
          have hpsz : p.sz = sz := by rw [hsz] at hz'; exact (Option.some.inj hz').symm
          -- the old cells
          have hold : ∃ old' : Array Value, (∀ w', w'.heap = w.heap → (Builtin.firstCells sz n (.slice (some ⟨p.blk, off, none⟩) n c')).run P w' = .ok old' w') ∧ old'.size = n * sz ∧
              ∀ j, j < n * sz → ∃ v', old'[j]? = some v' ∧ VR ρ γ (PT.get undefI cc (o + j)) v' := by
            by_cases hz0 : n = 0
            · subst hz0
              refine ⟨#[], fun w' _ => ?_, by simp, fun j hj => by omega⟩
              show (loadCells _ (0 * sz)).run P w' = _
              rw [Nat.zero_mul]; rfl
            · have := hoff.resolve_left hz0
              subst this
              refine ⟨arr.extract (p.shift + o) (p.shift + o + n * sz), fun w' hw => run_loadCells (by rw [hw]; exact hrow) (by omega), by simp; omega, fun j hj => ?_⟩
              obtain ⟨v', hv1, hv2⟩ := hc (o + j) (by omega)
              refine ⟨v', ?_, hv2⟩
              rw [Array.getElem?_extract, if_pos (by omega), Nat.add_assoc]
              exact hv1
          obtain ⟨old', hold1, hold2, hold3⟩ := hold
          have hcont : ∀ ρ', Le ρ ρ' → ∀ (rest : Array Value), ∀ j, j < (n + m) * sz → ∃ v', (old' ++ new' ++ rest)[j]? = some v' ∧ VR ρ' γ (PT.get undefI (growRow cc len o n sz m new) j) v' := by
            intro ρ' hle' rest j hj
            rw [get_growRow cc len o n sz m new hnl j hj]
            by_cases hj1 : j < n * sz
            · rw [dif_pos hj1]
              obtain ⟨v', hv1, hv2⟩ := hold3 j hj1
              exact ⟨v', by rw [Array.getElem?_append_left (by simp; omega), Array.getElem?_append_left (by omega)]; exact hv1, hv2.mono hle'⟩
            · rw [dif_neg hj1]
              rw [Nat.add_mul] at hj
              have hk' : new[j - n * sz]? = some (new[j - n * sz]'(by omega)) := List.getElem?_eq_getElem (by omega)
              obtain ⟨v', hv1, hv2⟩ := hnr.get hk'
              refine ⟨v', ?_, hv2.mono hle'⟩
              rw [Array.getElem?_append_left (by simp; omega), Array.getElem?_append_right (by omega), hold2]
              simpa using hv1
          have hgrow : ∀ (s1 : St) (fz' tag' : Nat), Rel P γ ρ s1 w → c' < n + m → s1.next = s.next →
              ∃ v' w' ρ', (Builtin.append_ ts rt #[.slice (some ⟨p.blk, off, none⟩) n c', y']).run P w = .ok v' w' ∧ Goes ρ s1 w ρ' (s1.new (.cells (growRow cc len o n sz m new) ((n + m) * sz) e fz' tag')) w' ∧
                Rel P γ ρ' (s1.new (.cells (growRow cc len o n sz m new) ((n + m) * sz) e fz' tag')) w' ∧ VR ρ' γ (.sl s.next 0 (n + m) (n + m) false) v' := by
            intro s1 fz' tag' hs1 hlt hnx
            obtain ⟨newCap, hcap, hrun⟩ := append_grows (P := P) (w := w) (rt := rt) (n := n) (c' := c') ht0 hu0 ht1 hu1 hd hsz hi hk hrm hzrun (hlen w rfl) hlt (hold1 (drawn w) rfl) (hnew (drawn w) rfl)
            obtain ⟨ρ', h1, h2, h3⟩ := grown_new fz' tag' hs1.drawn (c := growRow cc len o n sz m new) (e := e) (len := (n + m) * sz) (tot := n + m) (cap := newCap) (arr := old' ++ new' ++ Builtin.zeroCells zv.cells (newCap - (n + m))) hsz rfl hcap
              (by simp [size_zeroCells, hnl', hzs, hold2]; rw [← Nat.add_mul, ← Nat.add_mul]; congr 1; omega) (fun ρ' hle' => hcont ρ' hle' _)
            rw [hnx] at h3
            exact ⟨_, _, ρ', hrun, (Goes.drawn ρ s1 w).trans h1, h2, h3⟩
          cases ex with
          | true =>
            obtain ⟨rfl, rfl⟩ := hex1 rfl
            simp only at hr
            injection hr with hv hs
            subst hv hs
            obtain ⟨v', w', ρ', q1, q2, q3, q4⟩ := hgrow s 0 0 h (hnm rfl) rfl
            exact ⟨v', w', ρ', q1, q2, q3, q4⟩
          | false =>
            simp only at hr
            obtain ⟨hnc, ho, hlim⟩ := hex2 rfl
            split at hr <;> (try (cases hr; done))
            rename_i hcond
            injection hr with hv hs
            subst hv hs
            simp only [Bool.and_eq_true, Bool.or_eq_true] at hcond
            obtain ⟨⟨hfz, hone⟩, hfo⟩ := hcond
            have hfz' : fz ≤ o + n * sz := Nat.le_of_ble_eq_true hfz
            have hfo' : fz = 0 ∨ o = 0 := hfo.imp Nat.eq_of_beq_eq_true Nat.eq_of_beq_eq_true
            have hoge : p.shift ≤ off := by rcases ho with h0 | h0 <;> omega
            have hfoff : p.shift + fz ≤ off + n * sz ∧ p.shift + fz ≤ off + (fz - o) := by
              rcases ho with h0 | ⟨h0, h1⟩
              · omega
              · have hn0 : n = 0 := by omega
                subst hn0
                rcases hfo' with h2 | h2 <;> omega
            have hfz0 : fz - o = 0 → fz = 0 := by intro h0; rcases hfo' with h2 | h2 <;> omega
            by_cases hroomy : n + m ≤ c'
            · -- in place
              let q : Pl := ⟨p.blk, off, p.lim, p.sz⟩
              have hq := h.le_with q
              have hlim' : off + (n + m) * sz ≤ p.lim := by
                have := Nat.mul_le_mul_right p.sz hroomy
                rw [hpsz] at this hlim
                omega
              have hrunS := run_storeCells (P := P) new'.toList w p.blk (off + n * sz) 0 arr e fr hrow (by simp; rw [Nat.add_mul] at hlim'; omega) (ones_of hnr hone) (fun j hj hj' => hf j (by omega) (by simp at hj'; rw [Nat.add_mul] at hlim'; omega))
              have hover := h.over (q := q) hb (by rw [hg]; exact fun h => h) rfl (x := .cells (growRow cc len o n sz m new) ((n + m) * sz) e (fz - o) (grownTag st)) (o := .cells (wrArr arr (off + n * sz) new'.toList) e fr) (by
                refine .cells _ _ _ _ _ _ _ hlim' (by rw [size_wrArr]; exact ha) ?_ ?_ ?_ ?_ hz'
                · intro j hj
                  rw [get_growRow cc len o n sz m new hnl j hj]
                  show ∃ v', (wrArr arr (off + n * sz) new'.toList)[off + j]? = some v' ∧ _
                  rw [get_wrArr _ _ _ _ (by simp; rw [Nat.add_mul] at hlim'; omega)]
                  by_cases hj1 : j < n * sz
                  · rw [dif_pos hj1, if_neg (by omega)]
                    have hn0 : n ≠ 0 := by intro e0; subst e0; omega
                    have := hoff.resolve_left hn0
                    subst this
                    obtain ⟨v', hv1, hv2⟩ := hc (o + j) (by omega)
                    exact ⟨v', by rw [Nat.add_assoc]; exact hv1, hv2.mono hq⟩
                  · rw [dif_neg hj1]
                    rw [Nat.add_mul] at hj
                    rw [if_pos (by simp; omega)]
                    have hk' : new[j - n * sz]? = some (new[j - n * sz]'(by omega)) := List.getElem?_eq_getElem (by omega)
                    obtain ⟨v', hv1, hv2⟩ := hnr.get hk'
                    exact ⟨v', by rw [show off + j - (off + n * sz) = j - n * sz by omega]; exact hv1, hv2.mono hq⟩
                · intro j hj1 hj2
                  exact hf j (by have : q.shift = off := rfl; omega) hj2
                · intro hne
                  have hst1 : st ≠ 1 := by intro e1; subst e1; exact hne rfl
                  obtain ⟨ha1, ha2⟩ := hs' hst1
                  exact ⟨ha1.imp id (fun h0 => by show fr.2 ≤ off + (fz - o); omega), fun h0 => ha2 (hfz0 h0)⟩
                · intro h0
                  cases st <;> cases h0)
              refine ⟨.slice (some ⟨p.blk, off, none⟩) (n + m) c', _, _, ?_, hover.2, hover.1, ?_⟩
              · unfold Builtin.append_
                have hst' : (storeCells (Addr.add ⟨p.blk, off, none⟩ (n * sz)) new'.toList).run P w = .ok () (setRow w p.blk (.cells (wrArr arr (off + n * sz) new'.toList) e fr)) := by
                  rw [add_none]; simpa using hrunS
                simp only [ht0, ht1, List.getElem?_toArray, List.getElem?_cons_zero, List.getElem?_cons_succ, Sem.run_bind, run_underlying hu0, run_underlying hu1, Result.andThen_ok, run_sizeOf hsz, Sem.run_pure, hnz, Bool.false_eq_true, if_false, hlen w rfl,
                  if_pos hroomy, Bool.not_false, if_true, hnew w rfl, hst']
              · exact .sli s.next 0 (n + m) (n + m) c' off q (Rho.with_self _ _ _) (Nat.le_refl _) hroomy (.inl rfl) hlim
            · obtain ⟨hk1, hk2⟩ := h.kill hb
              obtain ⟨v', w', ρ', q1, q2, q3, q4⟩ := hgrow (s.put b .dead) (fz - o) (grownTag st) hk1 (by omega) rfl
              exact ⟨v', w', ρ', q1, hk2.trans q2, q3, q4⟩
      cases hle : Nat.ble (Nat.add n m) c with
      | true =>
        have hnm : n + m ≤ c := Nat.le_of_ble_eq_true hle
        rw [hle] at hr
        simp only at hr
        cases hw : s.wr b (Nat.add o (Nat.mul n sz)) new with
        | no =>
          rw [hw] at hr
          unfold withSlOr at hr
          cases ex with
          | true => cases hr
          | false => exact key (fun h => by cases h) hr
        | ok s1 =>
          rw [hw] at hr
          simp only [withSlOr] at hr
          injection hr with hv hs
          subst hv hs
          obtain ⟨w', hst, hgo, hrel⟩ := h.wr hb hnr hw
          -- where it is written
          have hst' : (storeCells (Addr.add ⟨p.blk, off, none⟩ (n * sz)) new'.toList).run P w = .ok () w' := by
            by_cases hz : m = 0 ∧ n = 0
            · obtain ⟨rfl, rfl⟩ := hz
              have : new'.toList = [] := List.length_eq_zero_iff.1 (by rw [Array.length_toList, hnl', Nat.zero_mul])
              rw [this] at hst ⊢
              exact hst
            · have : off = p.shift + o := by
                rcases hoff with h0 | h0
                · cases ex with
                  | true => exact (hex1 rfl).1
                  | false =>
                    obtain ⟨q1, q2, q3⟩ := hex2 rfl
                    rcases q2 with q2 | q2
                    · exact q2
                    · omega
                · exact h0
              subst this
              rw [add_none]
              simpa only [Nat.add_eq, Nat.mul_eq, Nat.add_assoc] using hst
          refine ⟨.slice (some ⟨p.blk, off, none⟩) (n + m) c', w', ρ, ?_, hgo, hrel, ?_⟩
          · unfold Builtin.append_
            simp only [ht0, ht1, List.getElem?_toArray, List.getElem?_cons_zero, List.getElem?_cons_succ, Sem.run_bind, run_underlying hu0, run_underlying hu1, Result.andThen_ok, run_sizeOf hsz, Sem.run_pure, hnz, Bool.false_eq_true, if_false, hlen w rfl,
              if_pos (show n + m ≤ c' by omega), Bool.not_false, if_true, hnew w rfl, hst']
          · cases ex with
            | true =>
              obtain ⟨rfl, rfl⟩ := hex1 rfl
              exact .slx b o (n + m) c' p hb
            | false =>
              obtain ⟨hnc, ho, hlim⟩ := hex2 rfl
              exact .sli b o (n + m) c c' off p hb hnm hcc ho hlim
      | false =>
        have hnm : c < n + m := by
          rcases Nat.lt_or_ge c (n + m) with hlt | hge
          · exact hlt
          · have : Nat.ble (n + m) c = true := Nat.ble_eq_true_of_le hge
            rw [show Nat.add n m = n + m from rfl, this] at hle; cases hle
        rw [hle] at hr
        exact key (fun _ => hnm) hr


theorem intT1_eq {ts : Array TypeId} (h : intT1 P ts = true) : ∃ t1 q, ts[1]? = some t1 ∧ P.underlying t1 = some (.int q) := by
  unfold intT1 at h
  split at h
  · rename_i q hd
    obtain ⟨t, ht, hu⟩ := argT_eq hd
    exact ⟨t, q, ht, hu⟩
  · cases h

theorem appendZ_sim {ρ : Rho} {s s' : St} {w : World} {ts : Array TypeId} {rt : TypeId} {e sz : Nat} {x y v : IV} {x' y' : Value} (h : Rel P γ ρ s w) (he : elemSz P ts = some (e, sz)) (hni : intT1 P ts = true) (hzi : zeroIs P e sz = true)
    (hx : VR ρ γ x x') (hy : VR ρ γ y y') (hr : Eng.appendZ P e sz s x y = .ok v s') : Yields P γ ρ s w (Builtin.append_ ts rt #[x', y']) v s' := by
  obtain ⟨t0, ht0, hu0, hsz, hsz0⟩ := elemSz_eq he
  obtain ⟨t1, q, ht1, hu1⟩ := intT1_eq hni
  unfold appendZ at hr
  split at hr <;> (try (cases hr; done))
  split at hr <;> (try (cases hr; done))
  split at hr <;> (try (cases hr; done))
  split at hr <;> (try (cases hr; done))
  split at hr <;> (try (cases hr; done))
  rename_i m
  unfold appendZN at hr
  split at hr <;> (try (cases hr; done))
  rename_i hroom
  split at hr <;> (try (cases hr; done))
  rename_i z hz
  injection hr with hv hs
  subst hv hs
  have hzl : z.cells.length = sz := by
    unfold zeroIs at hzi
    rw [hz] at hzi
    exact Nat.eq_of_beq_eq_true hzi
  obtain ⟨zv, hzrun, hzr⟩ := zero_rel (P := P) (ρ := ρ) (γ := γ) hz
  have hzc := hzr.cells
  have hzs : zv.cells.size = sz := by have := hzc.length; simp at this; omega
  cases hx
  cases hy
  obtain ⟨i, k, hi, hk, hrm⟩ := room_inv hroom
  obtain ⟨newCap, hcap, hrun⟩ := append_growsZ (P := P) (w := w) (rt := rt) (m := m) ht0 hu0 ht1 hu1 hsz hsz0 hi hk hrm hzrun
  have hlen : (zeroRep z.cells ((m + 1) * sz)).length = (m + 1) * sz := by unfold zeroRep; simp
  obtain ⟨ρ', h1, h2, h3⟩ := grown_new 0 0 h.drawn (c := wrC (zeroRep z.cells ((m + 1) * sz)) .e 0) (e := e) (len := (zeroRep z.cells ((m + 1) * sz)).length) (tot := m + 1) (cap := newCap)
    (arr := #[] ++ Builtin.zeroCells zv.cells (m + 1) ++ Builtin.zeroCells zv.cells (newCap - (m + 1))) hsz hlen hcap
    (by simp [size_zeroCells, hzs]; rw [← Nat.add_mul]; congr 1; omega) (by
      intro ρ' hle j hj
      rw [hlen] at hj
      rw [get_wrC, dif_pos (by omega)]
      have hjz : j % sz < z.cells.length := by rw [hzl]; exact Nat.mod_lt _ (by omega)
      obtain ⟨v', hv1, hv2⟩ := hzc.get (List.getElem?_eq_getElem hjz)
      refine ⟨v', ?_, ?_⟩
      · rw [Array.getElem?_append_left (by simp [size_zeroCells, hzs]; omega), Array.getElem?_append_right (by simp)]
        unfold Builtin.zeroCells
        simp only [Array.size_empty, Nat.sub_zero, hzs]
        rw [Array.getElem?_map, Array.getElem?_range, if_pos hj]
        simp only [Option.map_some]
        have hv1' : zv.cells[j % sz]? = some v' := by simpa using hv1
        rw [getElem!_def, hv1']
      · have : (zeroRep z.cells ((m + 1) * sz))[j - 0]'(by rw [hlen]; omega) = z.cells[j % sz]'hjz := by
          unfold zeroRep
          simp [hzl]
          rw [List.getElem?_eq_getElem hjz]; rfl
        rw [this]
        exact hv2.mono hle)
  exact ⟨_, _, ρ', hrun, (Goes.drawn ρ s w).trans h1, h2, h3⟩
end Go.Eng

set_option linter.constructorNameAsVariable false
set_option linter.unusedVariables false
set_option linter.unusedSimpArgs false
namespace Go.Eng
variable {P : Program} {γ : Gam}

theorem pick_sim {ρ : Rho} {s s' : St} {w : World} {c a b v : IV} {c' a' b' : Value} (h : Rel P γ ρ s w) (hc : VR ρ γ c c') (ha : VR ρ γ a a') (hb : VR ρ γ b b') (hr : pickB c a b s = .ok v s') :
    Yields P γ ρ s w (do pure (if ← asBool c' then a' else b')) v s' := by
  unfold pickB at hr
  cases c <;> simp only [IV.onBool] at hr <;> (try (cases hr; done))
  rename_i t
  cases hc
  cases t <;> (cases hr; first | exact Yields.same h rfl ha | exact Yields.same h rfl hb)

theorem iface_sim {ρ : Rho} {s : St} {w : World} {t : Nat} {u : TypeDesc} {x : IV} {x' : Value} (h : Rel P γ ρ s w) (hu : undI P t = some u) (hn : notIface u = true) (hx : VR ρ γ x x') :
    Yields P γ ρ s w (Instr.makeInterface t x') (.iface t x) s := by
  refine Yields.same h ?_ (.iface _ _ _ hx)
  unfold Instr.makeInterface
  simp only [Sem.run_bind, run_underlying (undI_eq hu), Result.andThen_ok]
  cases u <;> first | rfl | cases hn


/-- The first so many of what is copied. -/
theorem source_first {ρ : Rho} {s : St} {w : World} {sz m k : Nat} {y : IV} {y' : Value} {new : List IV} (h : Rel P γ ρ s w) (hy : VR ρ γ y y') (hr : sourceOf s sz y = .mk new m) (hk : k ≤ m) :
    ∃ new', (Builtin.firstCells sz k y').run P w = .ok new' w ∧ VRs ρ γ (new.take (k * sz)) new'.toList := by
  unfold sourceOf at hr
  cases y <;> simp only at hr <;> (try (cases hr; done))
  · rename_i l
    split at hr
    · cases hr
      cases hy with
      | str bs _ hl =>
        subst hl
        have hlen : (bs.data.toList.map UInt8.toNat).length = bs.size := by simp
        rw [hlen] at hk
        refine ⟨(bs.extract 0 k).data.map fun b => .int .u8 b.toNat, rfl, ?_⟩
        have hb := bytesI_sim (ρ := ρ) (γ := γ) bs.data.toList
        have e1 : ((bs.extract 0 k).data.map fun b => Value.int .u8 b.toNat).toList = (bs.data.toList.map fun b => Value.int .u8 b.toNat).take k := by
          rw [Array.toList_map, ByteArray.data_extract, Array.toList_extract, List.extract_eq_take_drop, List.drop_zero, Nat.sub_zero, List.map_take]
        rw [e1, Nat.mul_one]
        refine VRs.of_get (by simp [length_bytesI]) fun j v hj => ?_
        rw [List.getElem?_take] at hj
        split at hj <;> (try (cases hj; done))
        rename_i hjk
        obtain ⟨v', h1, h2⟩ := hb.get hj
        exact ⟨v', by rw [List.getElem?_take, if_pos hjk]; exact h1, h2⟩
    · cases hr
  · cases hr
    cases hy
    exact ⟨#[], rfl, by simpa using VRs.nil⟩
  · rename_i b o n c ex
    unfold srcOf at hr
    cases hrd : s.rd b o (n * sz) with
    | none => simp only [Nat.mul_eq] at hr; rw [hrd] at hr; cases hr
    | some l =>
      simp only [Nat.mul_eq] at hr
      rw [hrd] at hr
      simp only at hr
      cases hr
      obtain ⟨p, off, c', hb, rfl, hoff, _⟩ := hy.sl_inv
      obtain ⟨arr, e2, fr, h1, h2, h3⟩ := h.rd hb hrd
      by_cases hz : k = 0
      · subst hz
        refine ⟨#[], ?_, ?_⟩
        · show (loadCells _ (0 * sz)).run P w = _
          rw [Nat.zero_mul]; rfl
        · rw [Nat.zero_mul]; exact .nil
      · have := hoff.resolve_left (by omega)
        subst this
        have hks : k * sz ≤ m * sz := Nat.mul_le_mul_right _ hk
        refine ⟨_, run_loadCells h1 (by omega), ?_⟩
        have hl3 := h3.length
        refine VRs.of_get ?_ fun j v hj => ?_
        · simp at hl3 ⊢; omega
        · rw [List.getElem?_take] at hj
          split at hj <;> (try (cases hj; done))
          rename_i hjk
          obtain ⟨v', q1, q2⟩ := h3.get hj
          refine ⟨v', ?_, q2⟩
          rw [Array.getElem?_toList, Array.getElem?_extract] at q1 ⊢
          rw [if_pos (by omega)] at q1
          rw [if_pos (by omega)]
          exact q1

theorem copy_sim {ρ : Rho} {s s' : St} {w : World} {ts : Array TypeId} {rt : TypeId} {e sz : Nat} {x y v : IV} {x' y' : Value} (h : Rel P γ ρ s w) (he : elemSz P ts = some (e, sz))
    (hx : VR ρ γ x x') (hy : VR ρ γ y y') (hr : doCopy sz s x y = .ok v s') : Yields P γ ρ s w (Builtin.copy_ ts rt #[x', y']) v s' := by
  obtain ⟨t0, ht0, hu0, hsz, hsz0⟩ := elemSz_eq he
  unfold doCopy at hr
  cases hsrc : sourceOf s sz y with
  | no => rw [hsrc] at hr; cases hr
  | mk new m =>
    rw [hsrc] at hr
    simp only at hr
    obtain ⟨hnl, hlen, _⟩ := source_sim h hy hsrc
    unfold copyTo at hr
    cases x <;> simp only at hr <;> (try (cases hr; done))
    · cases hx; cases hr
      obtain ⟨new', q1, q2⟩ := source_first (k := 0) h hy hsrc (Nat.zero_le _)
      refine Yields.same h ?_ (.int _ _)
      unfold Builtin.copy_
      simp only [ht0, List.getElem?_toArray, List.getElem?_cons_zero, List.getElem?_cons_succ, Sem.run_bind, run_underlying hu0, Result.andThen_ok, hlen w rfl, run_sizeOf hsz, show Nat.min m 0 = 0 from Nat.min_zero _, q1, Sem.run_pure]
      rfl
    · rename_i b o n c ex
      obtain ⟨p, off, c', hb, rfl, hoff, _⟩ := hx.sl_inv
      obtain ⟨new', q1, q2⟩ := source_first (k := min m n) h hy hsrc (Nat.min_le_left _ _)
      split at hr <;> (try (cases hr; done))
      rename_i l hl
      obtain ⟨hl1, rfl⟩ := takeN_eq hl
      cases hw : s.wr b o (new.take (min m n * sz)) with
      | no => rw [hw] at hr; cases hr
      | ok s1 =>
        rw [hw] at hr
        simp only [withSl] at hr
        injection hr with hv hs
        subst hv hs
        obtain ⟨w', hst, hgo, hrel⟩ := h.wr hb q2 hw
        have hst' : (storeCells ⟨p.blk, off, none⟩ new'.toList).run P w = .ok () w' := by
          by_cases hz : n = 0
          · have : new'.toList = [] := by
              have := q2.length
              rw [hz, Nat.min_zero, Nat.zero_mul, List.take_zero] at this
              exact List.length_eq_zero_iff.1 this.symm
            rw [this] at hst ⊢
            exact hst
          · rw [hoff.resolve_left hz]; exact hst
        refine ⟨_, w', ρ, ?_, hgo, hrel, .int _ _⟩
        unfold Builtin.copy_
        simp only [ht0, List.getElem?_toArray, List.getElem?_cons_zero, List.getElem?_cons_succ, Sem.run_bind, run_underlying hu0, Result.andThen_ok, hlen w rfl, run_sizeOf hsz, show Nat.min m n = min m n from rfl, q1, hst', Sem.run_pure]
        rfl

theorem clear_sim {ρ : Rho} {s s' : St} {w : World} {ts : Array TypeId} {rt : TypeId} {e : Nat} {z x v : IV} {x' : Value} (h : Rel P γ ρ s w) (ht : argT P ts 0 = some (.slice e)) (hz : zero P e = some z)
    (hx : VR ρ γ x x') (hr : doClear z.cells s x = .ok v s') : Yields P γ ρ s w (Builtin.clear_ ts rt #[x']) v s' := by
  obtain ⟨t, ht1, ht2⟩ := argT_eq ht
  obtain ⟨zv, hz1, hz2⟩ := zero_rel (P := P) (ρ := ρ) (γ := γ) hz
  unfold doClear at hr
  cases x <;> simp only at hr <;> (try (cases hr; done))
  · cases hx; cases hr
    refine Yields.same h ?_ (.tup [] #[] .nil)
    unfold Builtin.clear_
    simp only [ht1, List.getElem?_toArray, List.getElem?_cons_zero, Sem.run_bind, run_underlying ht2, Result.andThen_ok, Sem.run_pure]
  · rename_i b o n c ex
    obtain ⟨p, off, c', hb, rfl, hoff, _⟩ := hx.sl_inv
    cases hw : s.wr b o (rep n z.cells) with
    | no => rw [hw] at hr; cases hr
    | ok s1 =>
      rw [hw] at hr
      change R.ok undefI s1 = _ at hr
      injection hr with hv hs
      subst hv hs
      have hzr : VRs ρ γ (rep n z.cells) (Builtin.zeroCells zv.cells n).toList := rep_sim hz2.cells rfl
      obtain ⟨w', hst, hgo, hrel⟩ := h.wr hb hzr hw
      refine ⟨_, w', ρ, ?_, hgo, hrel, .tup [] #[] .nil⟩
      unfold Builtin.clear_
      simp only [ht1, List.getElem?_toArray, List.getElem?_cons_zero, Sem.run_bind, run_underlying ht2, Result.andThen_ok]
      cases n with
      | zero =>
        have : (Builtin.zeroCells zv.cells 0).toList = [] := by simp [Builtin.zeroCells]
        rw [this] at hst
        cases hst
        rfl
      | succ n =>
        have := hoff.resolve_left (by omega)
        subst this
        simp only [Sem.run_bind, hz1 w, Result.andThen_ok, hst, Sem.run_pure]

theorem run_asInt (k : IntKind) (n : Int) (w : World) : (asInt (.int k n)).run P w = .ok n w := rfl

theorem lies_bytes {e off n size : Nat} (hs : Go.Eng.size P e = some 1) (hn : off + n ≤ size) : liesAt P P.depth e (size / P.cellsOf e) off e n = true := by
  have hc := cellsOf_eq hs
  obtain ⟨d, hd⟩ := depth_succ P
  rw [hd]
  unfold liesAt
  rw [hd]
  unfold rowAt
  have hsame : sameLayout P (d + 1) e e = true := by unfold sameLayout; simp
  simp [hc, hn, hsame, Nat.mod_one]

theorem unsafeString_some (ts : Array TypeId) (ty : TypeId) (a : Addr) (y : Value) : Builtin.unsafeString_ ts ty #[.pointer (some a), y] =
    (do
      let n ← asInt y
      let some pt := ts[0]? | stuck "unsafe.String: no argument types"
      if n < 0 then runtimePanic (.error "unsafe.String: len out of range")
      if n > IntKind.i64.max then unsupported (.unsafePointer "String: a length above the largest int")
      if n = 0 then pure (.string .empty)
      else if ← variablesAt a (← elemOf pt) n.toNat then do
        let s ← loadBytes a .empty n.toNat
        freeze a n.toNat
        pure (.string s)
      else unsupported (.unsafePointer "String: not so many bytes at ptr")) := rfl
theorem unsafeString_nil (ts : Array TypeId) (ty : TypeId) (y : Value) : Builtin.unsafeString_ ts ty #[.pointer none, y] =
    (do
      let n ← asInt y
      let some pt := ts[0]? | stuck "unsafe.String: no argument types"
      if n < 0 then runtimePanic (.error "unsafe.String: len out of range")
      if n > IntKind.i64.max then unsupported (.unsafePointer "String: a length above the largest int")
      if n = 0 then pure (.string .empty)
      else runtimePanic (.error "unsafe.String: ptr is nil and len is not zero")) := rfl

theorem string_sim {ρ : Rho} {s s' : St} {w : World} {ts : Array TypeId} {rt : TypeId} {e : Nat} {x y v : IV} {x' y' : Value} (h : Rel P γ ρ s w) (he : ptrElem P ts = some e)
    (hx : VR ρ γ x x') (hy : VR ρ γ y y') (hr : doString e x y s = .ok v s') : Yields P γ ρ s w (Builtin.unsafeString_ ts rt #[x', y']) v s' := by
  unfold ptrElem at he
  split at he <;> (try (cases he; done))
  rename_i e1 harg
  split at he <;> (try (cases he; done))
  rename_i hb
  cases he
  obtain ⟨t, ht1, ht2⟩ := argT_eq harg
  obtain ⟨hu, hsz⟩ := isByte_eq hb
  unfold doString at hr
  cases hn : y.nat with
  | none => rw [hn] at hr; cases hr
  | some n =>
    rw [hn] at hr
    obtain ⟨k, rfl⟩ := nat_inv hy hn
    simp only at hr
    have hneg : ¬ (Int.ofNat n < 0) := Int.not_lt.2 (Int.natCast_nonneg n)
    cases n with
    | zero =>
      simp only at hr
      cases x <;> simp only at hr <;> (try (cases hr; done))
      · cases hx; cases hr
        refine Yields.same h ?_ (.str .empty [] rfl)
        rw [unsafeString_nil]
        simp only [Sem.run_bind, run_asInt, ht1, Result.andThen_ok]
        rfl
      · cases hx; cases hr
        refine Yields.same h ?_ (.str .empty [] rfl)
        rw [unsafeString_some]
        simp only [Sem.run_bind, run_asInt, ht1, Result.andThen_ok]
        rfl
    | succ n =>
      simp only at hr
      cases x <;> simp only at hr <;> (try (cases hr; done))
      rename_i b o
      cases hx
      rename_i p hb'
      unfold freezeIn at hr
      split at hr <;> (try (cases hr; done))
      rename_i c len e' fz tag hg
      split at hr <;> (try (cases hr; done))
      rename_i htag
      split at hr <;> (try (cases hr; done))
      rename_i hc
      simp only [Bool.and_eq_true] at hc
      obtain ⟨⟨hc1, hc2⟩, hc3⟩ := hc
      have he' := Nat.eq_of_beq_eq_true hc1
      subst he'
      have hlen : o + (n + 1) ≤ len := Nat.le_of_ble_eq_true hc2
      have htop : n + 1 ≤ top64 := Nat.le_of_ble_eq_true hc3
      split at hr <;> (try (cases hr; done))
      rename_i r hbs
      injection hr with hv hs
      subst hv hs
      obtain ⟨arr, fr, h1, h2⟩ := h.row hb' hg
      have hbig : ¬ (Int.ofNat (n + 1) > IntKind.i64.max) := by
        have : IntKind.i64.max = Int.ofNat top64 := by decide
        rw [this]
        exact Int.not_lt.2 (Int.ofNat_le.2 htop)
      have hne0 : Int.ofNat (n + 1) ≠ 0 := fun h => absurd (Int.ofNat.inj (h : Int.ofNat (n + 1) = Int.ofNat 0)) (Nat.succ_ne_zero n)
      have htoN : (Int.ofNat (n + 1)).toNat = n + 1 := rfl
      cases h2 with
      | cells _ _ _ _ _ _ _ hl' ha hcs hf hst htg hz =>
        have hrd : VRs ρ γ (rdC c (n + 1) o) (arr.extract (p.shift + o) (p.shift + o + (n + 1))).toList := by
          have hsz1 : p.shift + o + (n + 1) ≤ arr.size := by omega
          have hsz2 : (rdC c (n + 1) o).length = (arr.extract (p.shift + o) (p.shift + o + (n + 1))).toList.length := by
            rw [length_rdC, Array.length_toList, Array.size_extract]; omega
          refine VRs.of_get hsz2 ?_
          intro k v hk
          have hk' : k < n + 1 := by have := (List.getElem?_eq_some_iff.1 hk).1; rwa [length_rdC] at this
          rw [get_rdC c _ _ _ hk'] at hk
          cases hk
          obtain ⟨v', q1, q2⟩ := hcs (o + k) (by omega)
          refine ⟨v', ?_, q2⟩
          rw [Array.getElem?_toList, Array.getElem?_extract, if_pos (by omega), Nat.add_assoc]
          exact q1
        obtain ⟨q1, q2⟩ := bytesOfI_sim hrd hbs
        have hrl : r.length = n + 1 := by
          have := hrd.length; rw [length_rdC] at this; rw [this, q1]; simp
        let bs : List UInt8 := r.map UInt8.ofNat
        have hbl : bs.length = n + 1 := by simp [bs, hrl]
        have hbn : bs.map UInt8.toNat = r := by
          show (r.map UInt8.ofNat).map UInt8.toNat = r
          rw [List.map_map]
          conv => rhs; rw [← List.map_id r]
          exact List.map_congr_left fun c hc => toNat_ofNat (q2 c hc)
        have hload : (loadBytes ⟨p.blk, p.shift + o, none⟩ .empty (n + 1)).run P w = .ok ⟨(ByteArray.empty).data ++ bs.toArray⟩ w := by
          have := Lib.run_loadBytes (P := P) w bs ⟨p.blk, p.shift + o, none⟩ .empty (by
            intro j x hj
            have hj' : j < bs.length := (List.getElem?_eq_some_iff.1 hj).1
            have e1 : ((⟨p.blk, p.shift + o, none⟩ : Addr).add j) = ⟨p.blk, p.shift + o + j, none⟩ := add_none ..
            rw [e1]
            have e2 : (arr.extract (p.shift + o) (p.shift + o + (n + 1))).toList[j]? = some (.int .u8 x.toNat) := by
              rw [q1, ← hbn, List.map_map, List.getElem?_map, hj]; rfl
            rw [Array.getElem?_toList, Array.getElem?_extract, if_pos (by omega)] at e2
            unfold World.cell?
            simp only [h1]
            exact e2)
          rw [hbl] at this
          exact this
        have hput := h.put (x := .cells c len e (max fz (o + (n + 1))) tag) (o := .cells arr e (if fr.1 == fr.2 then (p.shift + o, p.shift + o + (n + 1)) else (min fr.1 (p.shift + o), max fr.2 (p.shift + o + (n + 1))))) hb' (by rw [hg]; exact fun h => h) (by
          have htag' : tag ≠ 1 := by intro e; subst e; cases htag
          obtain ⟨hs1, hs2⟩ := hst htag'
          refine .cells _ _ _ _ _ _ _ hl' ha hcs ?_ ?_ htg hz
          · intro j hj1 hj2
            split
            · simp only; omega
            · rename_i hfr
              have : fr.1 ≠ fr.2 := by simpa using hfr
              rcases hs1 with hs1 | hs1
              · exact absurd hs1 this
              · simp only; omega
          · intro _
            refine ⟨.inr ?_, fun h0 => by omega⟩
            split
            · simp only; omega
            · rename_i hfr
              have : fr.1 ≠ fr.2 := by simpa using hfr
              rcases hs1 with hs1 | hs1
              · exact absurd hs1 this
              · simp only; omega)
        refine ⟨_, _, ρ, ?_, hput.2, hput.1, .str ⟨(ByteArray.empty).data ++ bs.toArray⟩ r (by show ((ByteArray.empty).data ++ bs.toArray).toList.map UInt8.toNat = r; simpa using hbn)⟩
        rw [unsafeString_some]
        have helem : (elemOf t).run P w = .ok e w := by
          unfold elemOf; simp only [Sem.run_bind, run_underlying ht2, Result.andThen_ok, Sem.run_pure]
        have hvar : (variablesAt ⟨p.blk, p.shift + o, none⟩ e (n + 1)).run P w = .ok true w := by
          unfold variablesAt
          simp only [Sem.run_bind, run_program, run_shape, shape_eq h1, Result.andThen_ok, Sem.run_pure, lies_bytes hsz (show p.shift + o + (n + 1) ≤ arr.size by omega)]
        simp only [Sem.run_bind, run_asInt, ht1, Result.andThen_ok, Sem.run_pure, List.getElem?_toArray, List.getElem?_cons_zero, if_neg hneg, if_neg hbig, if_neg hne0, helem, htoN, hvar, if_true, hload, run_freeze, freeze_eq h1 (by omega : n + 1 ≠ 0)]
end Go.Eng
