/- A part of the proof: an interpreter of the program, shown right once, and the laws that it computes. -/
import Derived.Test.YtpanfhfcpniodaaGreatDoorEng9
set_option linter.constructorNameAsVariable false
set_option linter.unusedVariables false
set_option linter.unusedSimpArgs false
namespace Go.Eng
theorem hiL_le (j : Nat) : hiL j ≤ 122 := by unfold hiL; split <;> omega
variable {P : Program} {γ : Gam}

/- runes -/
theorem nth_eq {α : Type} : ∀ (l : List α) (k : Nat), nth l k = l[k]?
  | [], k => by simp [nth]
  | x :: l, 0 => rfl
  | x :: l, k + 1 => by simp only [nth, List.getElem?_cons_succ]; exact nth_eq l k

theorem get_drop (s : ByteArray) (i k : Nat) : byteAt ((s.data.toList.map UInt8.toNat).drop i) k = (s.get! (i + k)).toNat := by
  unfold byteAt
  rw [nth_eq, List.getElem?_drop, List.getElem?_map]
  by_cases h : i + k < s.size
  · have h' : i + k < s.data.toList.length := by simpa using h
    rw [List.getElem?_eq_getElem h']
    have : s.get! (i + k) = s.data.toList[i + k] := by
      cases s with
      | mk d =>
        have hd : i + k < d.size := h
        simp [ByteArray.get!, hd]
    simp [this]
  · have h' : s.data.toList.length ≤ i + k := by simpa using h
    rw [List.getElem?_eq_none h']
    have : s.get! (i + k) = 0 := by
      cases s with
      | mk d =>
        have hd : ¬ i + k < d.size := h
        simp [ByteArray.get!, hd]; rfl
    simp [this]
theorem cont_drop (s : ByteArray) (i k : Nat) : isCont ((s.data.toList.map UInt8.toNat).drop i) k = (decide (i + k < s.size) && ((s.get! (i + k)).toNat / 64 == 2)) := by
  unfold isCont
  rw [nth_eq, List.getElem?_drop, List.getElem?_map]
  by_cases h : i + k < s.size
  · have h' : i + k < s.data.toList.length := by simpa using h
    rw [List.getElem?_eq_getElem h']
    have : s.get! (i + k) = s.data.toList[i + k] := by
      cases s with
      | mk d =>
        have hd : i + k < d.size := h
        simp [ByteArray.get!, hd]
    simp only [Option.map_some, this, h, decide_true, Bool.true_and]
    rw [Bool.eq_iff_iff]; simp
  · have h' : s.data.toList.length ≤ i + k := by simpa using h
    rw [List.getElem?_eq_none h']
    simp [h]

theorem decode_eq (s : ByteArray) (i : Nat) : decode ((s.data.toList.map UInt8.toNat).drop i) = Utf8.decode s i := by
  unfold decode Utf8.decode decodeMore
  simp only [get_drop, cont_drop]
  cases h : Nat.blt (s.get! (i + 0)).toNat 128 with
  | true =>
    have : (s.get! (i + 0)).toNat < 128 := by simpa [Nat.blt_eq] using h
    rw [if_pos this]
  | false =>
    have : ¬ (s.get! (i + 0)).toNat < 128 := by
      intro e
      have h2 : Nat.blt (s.get! (i + 0)).toNat 128 = true := by simpa [Nat.blt_eq] using e
      rw [h2] at h; cases h
    simp only [this, if_false]

theorem toNat_ofNat {n : Nat} (h : n < 256) : (UInt8.ofNat n).toNat = n := by
  simp [UInt8.toNat_ofNat']; omega

theorem encode_eq (r : Int) : (Utf8.encode r).data.toList.map UInt8.toNat = encode r := by
  unfold Utf8.encode encode
  have hc : (if Utf8.valid r then r.toNat else Utf8.runeError) < 0x110000 := by
    split
    · rename_i h
      unfold Utf8.valid at h
      simp only [Bool.or_eq_true, Bool.and_eq_true, decide_eq_true_eq] at h
      omega
    · decide
  generalize (if Utf8.valid r then r.toNat else Utf8.runeError) = c at hc
  simp only
  split
  · simp [toNat_ofNat (show c < 256 by omega)]
  · split
    · simp [UInt8.toNat_ofNat'] <;> omega --  + c / 64 < 256 by omega), toNat_ofNat (show 128 + c % 64 < 256 by omega)]
    · split
      · simp [UInt8.toNat_ofNat'] <;> omega --  + c / 4096 < 256 by omega), toNat_ofNat (show 128 + c / 64 % 64 < 256 by omega), toNat_ofNat (show 128 + c % 64 < 256 by omega)]
      · simp [UInt8.toNat_ofNat'] <;> omega --  + c / 262144 < 256 by omega), toNat_ofNat (show 128 + c / 4096 % 64 < 256 by omega), toNat_ofNat (show 128 + c / 64 % 64 < 256 by omega), toNat_ofNat (show 128 + c % 64 < 256 by omega)]

/- bytes -/
theorem bytesI_sim {ρ : Rho} : ∀ (l : List UInt8), VRs ρ γ (bytesI (l.map UInt8.toNat)) (l.map fun b => .int .u8 b.toNat)
  | [] => .nil
  | b :: l => .cons _ _ _ _ (.int _ _) (bytesI_sim l)
theorem length_bytesI : ∀ (l : List Nat), (bytesI l).length = l.length
  | [] => rfl
  | _ :: l => by simp [bytesI, length_bytesI l]

theorem bytesOfI_sim {ρ : Rho} : ∀ {l : List IV} {l' : List Value} {r : List Nat}, VRs ρ γ l l' → bytesOfI l = some r →
    l' = r.map (fun c => Value.int .u8 (Int.ofNat c)) ∧ (∀ c ∈ r, c < 256)
  | [], l', r, h, hr => by cases h; simp [bytesOfI] at hr; subst hr; simp
  | x :: l, l', r, h, hr => by
    cases h with
    | cons v v' _ l'' hv hs =>
      unfold bytesOfI at hr
      cases hb : byteI x with
      | none => simp [hb] at hr
      | some c =>
        simp only [hb] at hr
        cases hl : bytesOfI l with
        | none => simp [hl] at hr
        | some q =>
          simp only [hl] at hr; cases hr
          obtain ⟨h1, h2⟩ := bytesOfI_sim hs hl
          unfold byteI at hb
          split at hb <;> (try (cases hb; done))
          split at hb <;> (try (cases hb; done))
          rename_i hlt
          cases hb
          cases hv
          subst h1
          refine ⟨rfl, ?_⟩
          intro c' hc'
          cases hc' with
          | head => simpa [Nat.blt_eq] using hlt
          | tail _ hm => exact h2 c' hm

theorem isByte_eq {e : Nat} (h : isByte P e = true) : undI P e = some (.int .u8) ∧ size P e = some 1 := by
  unfold isByte at h
  split at h
  · rename_i hu
    split at h
    · rename_i hs; exact ⟨hu, hs⟩
    · cases h
  · cases h

/-- How a slice reads. -/
theorem VR.sl_inv {ρ : Rho} {b o n c : Nat} {x : Bool} {v' : Value} (h : VR ρ γ (.sl b o n c x) v') :
    ∃ p off c', ρ b = some p ∧ v' = .slice (some ⟨p.blk, off, none⟩) n c' ∧ (n = 0 ∨ off = p.shift + o) ∧ c ≤ c' ∧ (x = true → off = p.shift + o ∧ c' = c) ∧
      (x = false → n ≤ c ∧ (off = p.shift + o ∨ (c = 0 ∧ p.shift ≤ off)) ∧ off + c' * p.sz ≤ p.lim) := by
  cases h with
  | slx _ _ _ _ p h => exact ⟨p, _, c, h, rfl, .inr rfl, Nat.le_refl _, fun _ => ⟨rfl, rfl⟩, fun h => by cases h⟩
  | sli _ _ _ _ c' off p h hn hc ho hl => exact ⟨p, off, c', h, rfl, ho.elim .inr (fun h => .inl (by omega)), hc, (fun h => by cases h), fun _ => ⟨hn, ho, hl⟩⟩

/-- The cells of a slice. -/
theorem Rel.rdSl {ρ : Rho} {s : St} {w : World} (h : Rel P γ ρ s w) {b o n c : Nat} {x : Bool} {v' : Value} (hv : VR ρ γ (.sl b o n c x) v') {k : Nat} (hk : n = 0 → k = 0) {l : List IV} (hr : s.rd b o k = some l) :
    ∃ a c' l', v' = .slice (some a) n c' ∧ (loadCells a k).run P w = .ok l' w ∧ VRs ρ γ l l'.toList := by
  obtain ⟨p, off, c', hb, rfl, hoff, _⟩ := hv.sl_inv
  obtain ⟨arr, e, fr, h1, h2, h3⟩ := h.rd hb hr
  by_cases hz : n = 0
  · have hk0 := hk hz
    subst hk0
    obtain ⟨_, _, _, _, _, _, _, rfl⟩ := rd_some hr
    exact ⟨_, c', #[], rfl, rfl, .nil⟩
  · have : off = p.shift + o := hoff.resolve_left hz
    subst this
    exact ⟨_, c', _, rfl, run_loadCells h1 h2, h3⟩
end Go.Eng
