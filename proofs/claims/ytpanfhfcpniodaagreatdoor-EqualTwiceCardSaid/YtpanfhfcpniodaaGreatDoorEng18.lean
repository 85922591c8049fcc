/- A part of the proof: an interpreter of the program, shown right once, and the laws that it computes. -/
import Derived.Test.YtpanfhfcpniodaaGreatDoorEng17
set_option linter.constructorNameAsVariable false
set_option linter.unusedVariables false
set_option linter.unusedSimpArgs false
namespace Go.Eng
variable {P : Program} {γ : Gam}

theorem growBy_le : ∀ (r newLen c : Nat), Builtin.growBy newLen r c ≤ max c (newLen + (newLen + 768) / 4)
  | 0, newLen, c => by unfold Builtin.growBy; omega
  | r + 1, newLen, c => by
    unfold Builtin.growBy
    split
    · omega
    · have := growBy_le r newLen (c + (c + 768) / 4); omega
theorem nextcap_le {need c : Nat} (h : c < need) : Builtin.nextslicecap need c ≤ 4 * need + 4000 := by
  unfold Builtin.nextslicecap
  split
  · omega
  · split
    · omega
    · have := growBy_le 4 need c; omega

theorem room_inv {e need : Nat} (h : roomOk P e need = true) : ∃ i k, infoI P e = some i ∧ i.bytes = k + 1 ∧ (4 * need + 4000) * (k + 1) ≤ 2 ^ 48 := by
  unfold roomOk at h
  cases hb : bytesT P e with
  | zero => simp [hb] at h
  | succ k =>
    simp only [hb] at h
    unfold bytesT at hb
    cases hi : infoI P e with
    | none => simp [hi] at hb
    | some i => simp [hi] at hb; exact ⟨i, k, rfl, hb, Nat.le_of_ble_eq_true h⟩

/-- What is appended, or copied. -/
theorem source_sim {ρ : Rho} {s : St} {w : World} {sz m : Nat} {y : IV} {y' : Value} {new : List IV} (h : Rel P γ ρ s w) (hy : VR ρ γ y y') (hr : sourceOf s sz y = .mk new m) :
    new.length = m * sz ∧ (∀ w', w'.heap = w.heap → (Builtin.lenOf y').run P w' = .ok m w') ∧ ∃ new', (∀ w', w'.heap = w.heap → (Builtin.firstCells sz m y').run P w' = .ok new' w') ∧ VRs ρ γ new new'.toList := by
  unfold sourceOf at hr
  cases y <;> simp only at hr <;> (try (cases hr; done))
  · rename_i l
    split at hr
    · cases hr
      cases hy with
      | str bs _ hl =>
        subst hl
        have hlen : (bs.data.toList.map UInt8.toNat).length = bs.size := by simp
        rw [length_bytesI, hlen]
        refine ⟨by simp, fun w' _ => rfl, (bs.extract 0 bs.size).data.map fun b => .int .u8 b.toNat, fun w' _ => rfl, ?_⟩
        have : (bs.extract 0 bs.size) = bs := by
          apply ByteArray.ext
          rw [ByteArray.data_extract]
          have : bs.size = bs.data.size := rfl
          rw [this]; simp
        rw [this, Array.toList_map]
        exact bytesI_sim _
    · cases hr
  · cases hr
    cases hy
    exact ⟨by simp, fun w' _ => rfl, #[], fun w' _ => rfl, .nil⟩
  · rename_i b o n c ex
    unfold srcOf at hr
    cases hrd : s.rd b o (n * sz) with
    | none => simp only [Nat.mul_eq] at hr; rw [hrd] at hr; cases hr
    | some l =>
      simp only [Nat.mul_eq] at hr
      rw [hrd] at hr
      simp only at hr
      cases hr
      obtain ⟨c1, len, e1, fz, str, hg, hle, rfl⟩ := rd_some hrd
      obtain ⟨p, off, c', hb, rfl, hoff, _⟩ := hy.sl_inv
      refine ⟨length_rdC _ _ _, fun w' _ => rfl, ?_⟩
      obtain ⟨arr, e2, fr, h1, h2, h3⟩ := h.rd hb hrd
      by_cases hz : m = 0
      · subst hz
        refine ⟨#[], fun w' hw => ?_, ?_⟩
        · show (loadCells _ (0 * sz)).run P w' = _
          rw [Nat.zero_mul]; rfl
        · rw [Nat.zero_mul]; exact .nil
      · have := hoff.resolve_left hz
        subst this
        exact ⟨_, fun w' hw => run_loadCells (by rw [hw]; exact h1) h2, h3⟩

theorem get_growRow (c : PT IV) (len o n sz m : Nat) (new : List IV) (hnew : new.length = m * sz) (j : Nat) (hj : j < (n + m) * sz) :
    PT.get undefI (growRow c len o n sz m new) j = if h : j < n * sz then PT.get undefI c (o + j) else new[j - n * sz]'(by rw [Nat.add_mul] at hj; omega) := by
  rw [Nat.add_mul] at hj
  unfold growRow
  cases hb : (Nat.beq o 0 && Nat.ble len (Nat.mul (Nat.add n m) sz)) with
  | true =>
    simp only [Bool.and_eq_true] at hb
    have ho := Nat.eq_of_beq_eq_true hb.1
    subst ho
    simp only [Nat.mul_eq]
    rw [get_wrC]
    by_cases h : j < n * sz
    · rw [dif_pos h, dif_neg (by omega), Nat.zero_add]
    · rw [dif_neg h, dif_pos (by omega)]
  | false =>
    simp only [Nat.mul_eq]
    rw [get_wrC]
    by_cases h : j < n * sz
    · rw [dif_pos h, dif_neg (by omega), get_wrC, dif_pos (by rw [length_rdC]; omega)]
      have hk : j - 0 < (rdC c (n * sz) o).length := by rw [length_rdC]; omega
      have := get_rdC c (n * sz) o (j - 0) (by omega)
      rw [List.getElem?_eq_getElem hk] at this
      rw [Option.some.inj this, Nat.sub_zero]
    · rw [dif_neg h, dif_pos (by omega)]

/-- What the model's append does where it makes a new row. -/
theorem append_grows {w : World} {ts : Array TypeId} {rt t0 t1 e sz n c' m : Nat} {d : TypeDesc} {base : Option Addr} {y' : Value} {i : TypeInfo} {k : Nat} {zv : Value} {old' new' : Array Value}
    (ht0 : ts[0]? = some t0) (hu0 : P.underlying t0 = some (.slice e)) (ht1 : ts[1]? = some t1) (hu1 : P.underlying t1 = some d) (hd : ∀ q, d ≠ .int q) (hsz : size P e = some sz) (hi : infoI P e = some i) (hk : i.bytes = k + 1) (hroom : (4 * (n + m) + 4000) * (k + 1) ≤ 2 ^ 48)
    (hz : ∀ w, (zeroValue e).run P w = .ok zv w) (hm : (Builtin.lenOf y').run P w = .ok m w) (hgt : c' < n + m)
    (hold : (Builtin.firstCells sz n (.slice base n c')).run P (drawn w) = .ok old' (drawn w)) (hnew : (Builtin.firstCells sz m y').run P (drawn w) = .ok new' (drawn w)) :
    ∃ newCap, n + m ≤ newCap ∧ (Builtin.append_ ts rt #[.slice base n c', y']).run P w =
      .ok (.slice (some ⟨w.heap.size, 0, none⟩) (n + m) newCap) (pushed (drawn w) (.cells (old' ++ new' ++ Builtin.zeroCells zv.cells (newCap - (n + m))) e)) := by
  refine ⟨(n + m) + w.tape w.drawn (.appendCap (n + m) c' e) % (2 ^ 63 - (n + m)), Nat.le_add_right _ _, ?_⟩
  have hch : (choose (.appendCap (n + m) c' e)).run P w = .ok ((n + m) + w.tape w.drawn (.appendCap (n + m) c' e) % (2 ^ 63 - (n + m))) (drawn w) := by
    simp only [run_choose, Question.forced, Bool.false_eq_true, if_false]; rfl
  generalize (n + m) + w.tape w.drawn (.appendCap (n + m) c' e) % (2 ^ 63 - (n + m)) = newCap at hch ⊢
  have hnz : (match d with | .int _ => true | _ => false) = false := by cases d <;> first | rfl | exact absurd rfl (hd _)
  have hbig : ¬ (Builtin.nextslicecap (n + m) c' * i.bytes > 2 ^ 48) := by
    rw [hk]
    have := Nat.mul_le_mul_right (k + 1) (nextcap_le hgt)
    omega
  have hb0 : ¬ (i.bytes = 0) := by omega
  unfold Builtin.append_
  simp only [ht0, ht1, List.getElem?_toArray, List.getElem?_cons_zero, List.getElem?_cons_succ, Sem.run_bind, run_underlying hu0, run_underlying hu1, Result.andThen_ok, run_sizeOf hsz, Sem.run_pure, hnz, Bool.false_eq_true, if_false, hm,
    run_typeInfo (infoI_eq hi), if_neg (show ¬ (n + m ≤ c') by omega), false_or, hb0, and_false, if_neg hbig, hch, run_askRoom, hold, Bool.not_false, if_true, hnew, hz, run_newRow]
  rfl
end Go.Eng
