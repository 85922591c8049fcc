/- A part of the proof: an interpreter of the program, shown right once, and the laws that it computes. -/
import Derived.Test.YtpanfhfcpniodaaGreatDoorEng14
set_option linter.constructorNameAsVariable false
set_option linter.unusedVariables false
set_option linter.unusedSimpArgs false
namespace Go.Eng
variable {P : Program} {γ : Gam}

theorem nat_inv {ρ : Rho} {x : IV} {x' : Value} {n : Nat} (hx : VR ρ γ x x') (h : x.nat = some n) : ∃ k, x' = .int k (Int.ofNat n) := by
  cases hx <;> simp only [IV.nat] at h <;> (try (cases h; done))
  rename_i k m
  cases m with
  | ofNat m => simp at h; subst h; exact ⟨k, rfl⟩
  | negSucc m => simp at h

theorem run_asIntOf (k : IntKind) (n : Int) (w : World) : (asIntOf (.int k n)).run P w = .ok (k, n) w := rfl

theorem bound_sim {w : World} {k : IntKind} {n y : Nat} {code : BoundsCode} (h : n ≤ y) : (Instr.sliceBound (.int k (Int.ofNat n)) y code).run P w = .ok n w := by
  unfold Instr.sliceBound
  have : (0 : Int) ≤ Int.ofNat n ∧ Int.ofNat n ≤ (y : Int) := ⟨Int.natCast_nonneg n, Int.ofNat_le.2 h⟩
  simp only [Sem.run_bind, run_asIntOf, Result.andThen_ok, if_pos this, Sem.run_pure]
  rfl

/-- A bound that may be left out. -/
def NR (ρ : Rho) (γ : Gam) : Option Nat → Option Value → Prop
  | none, none => True
  | some n, some v => ∃ k, v = .int k (Int.ofNat n)
  | _, _ => False

theorem bounds_sim {w : World} {isSl : Bool} {len cap : Nat} {lo hi mx : Option Nat} {lo' hi' mx' : Option Value} {ρ : Rho} (hl : NR ρ γ lo lo') (hh : NR ρ γ hi hi') (hm : NR ρ γ mx mx') (hmx : mx = none ∨ hi ≠ none)
    (h1 : dflt 0 lo ≤ dflt len hi) (h2 : dflt len hi ≤ dflt cap mx) (h3 : dflt cap mx ≤ cap) :
    (Instr.sliceBounds isSl len cap lo' hi' mx').run P w = .ok (dflt 0 lo, dflt len hi, dflt cap mx) w := by
  unfold Instr.sliceBounds
  cases mx with
  | none =>
    cases mx' with
    | some _ => exact hm.elim
    | none =>
      cases hi with
      | none =>
        cases hi' with
        | some _ => exact hh.elim
        | none =>
          cases lo with
          | none => cases lo' with
            | some _ => exact hl.elim
            | none => rfl
          | some n => cases lo' with
            | none => exact hl.elim
            | some v =>
              obtain ⟨k, rfl⟩ := hl
              simp only [dflt] at h1 h2 h3 ⊢
              simp only [Sem.run_bind, Sem.run_pure, Result.andThen_ok, bound_sim h1]
      | some m =>
        cases hi' with
        | none => exact hh.elim
        | some v =>
          obtain ⟨k, rfl⟩ := hh
          simp only [dflt] at h1 h2 h3 ⊢
          cases lo with
          | none => cases lo' with
            | some _ => exact hl.elim
            | none => simp only [Sem.run_bind, Sem.run_pure, Result.andThen_ok, bound_sim h2]
          | some n => cases lo' with
            | none => exact hl.elim
            | some v =>
              obtain ⟨k, rfl⟩ := hl
              simp only at h1
              simp only [Sem.run_bind, Sem.run_pure, Result.andThen_ok, bound_sim h2, bound_sim h1]
  | some q =>
    cases mx' with
    | none => exact hm.elim
    | some vq =>
      obtain ⟨kq, rfl⟩ := hm
      cases hi with
      | none => exact absurd rfl (hmx.resolve_left (by simp))
      | some m =>
        cases hi' with
        | none => exact hh.elim
        | some v =>
          obtain ⟨k, rfl⟩ := hh
          simp only [dflt] at h1 h2 h3 ⊢
          cases lo with
          | none => cases lo' with
            | some _ => exact hl.elim
            | none => simp only [Sem.run_bind, Sem.run_pure, Result.andThen_ok, bound_sim h3, bound_sim h2]
          | some n => cases lo' with
            | none => exact hl.elim
            | some v =>
              obtain ⟨k, rfl⟩ := hl
              simp only at h1
              simp only [Sem.run_bind, Sem.run_pure, Result.andThen_ok, bound_sim h3, bound_sim h2, bound_sim h1]

theorem dropN_eq {α : Type} : ∀ {n : Nat} {l r : List α}, dropN n l = some r → n ≤ l.length ∧ r = l.drop n
  | 0, l, r, h => by simp [dropN] at h; subst h; simp
  | n + 1, [], r, h => by simp [dropN] at h
  | n + 1, x :: l, r, h => by simp only [dropN] at h; have := dropN_eq h; simpa using this
theorem takeR_eq {α : Type} : ∀ (l : List α) (n : Nat), takeR n l = l.take n
  | [], n => by cases n <;> rfl
  | x :: l, 0 => rfl
  | x :: l, n + 1 => by
    have := takeR_eq l n
    show x :: takeR n l = x :: l.take n
    rw [this]
theorem takeL_eq {α : Type} {n : Nat} {l r : List α} (h : takeL n l = some r) : n ≤ l.length ∧ r = l.take n := by
  unfold takeL at h
  split at h <;> (try (cases h; done))
  rename_i hb
  cases h
  exact ⟨Nat.le_of_ble_eq_true hb, takeR_eq l n⟩
theorem takeN_eq {α : Type} : ∀ {n : Nat} {l r : List α}, takeN n l = some r → n ≤ l.length ∧ r = l.take n
  | 0, l, r, h => by simp [takeN] at h; subst h; simp
  | n + 1, [], r, h => by simp [takeN] at h
  | n + 1, x :: l, r, h => by
    simp only [takeN] at h
    cases ht : takeN n l with
    | none => simp [ht] at h
    | some q => simp [ht] at h; subst h; have := takeN_eq ht; simp [this]

theorem cutSl_inv {b o c sz lo h m : Nat} {x : Bool} {v : IV} (hr : cutSl b o c x sz lo h m = some v) : lo ≤ h ∧ h ≤ m ∧ m ≤ c ∧ v = .sl b (if m = lo then o else o + lo * sz) (h - lo) (m - lo) x := by
  unfold cutSl at hr
  cases h1 : Nat.ble lo h with
  | false => simp [h1] at hr
  | true =>
    simp only [h1] at hr
    cases h2 : Nat.ble h m with
    | false => simp [h2] at hr
    | true =>
      simp only [h2] at hr
      cases h3 : Nat.ble m c with
      | false => simp [h3] at hr
      | true =>
        simp only [h3] at hr
        cases hr
        refine ⟨Nat.le_of_ble_eq_true h1, Nat.le_of_ble_eq_true h2, Nat.le_of_ble_eq_true h3, ?_⟩
        congr 1
        cases hb : Nat.beq m lo with
        | true => simp [Nat.eq_of_beq_eq_true hb]
        | false =>
          have : m ≠ lo := fun e => by subst e; simp at hb
          simp [this]

theorem cut_exact {ρ : Rho} {b o n c sz lo hh m : Nat} {p : Pl} (hb : ρ b = some p) : VR ρ γ (.sl b (if m = lo then o else o + lo * sz) n c true) (.slice (some (if m = lo then (⟨p.blk, p.shift + o, none⟩ : Addr) else Addr.add ⟨p.blk, p.shift + o, none⟩ (lo * sz))) n c) := by
  by_cases h : m = lo
  · simp only [if_pos h]; exact .slx _ _ _ _ p hb
  · simp only [if_neg h, add_none, Nat.add_assoc]; exact .slx _ _ _ _ p hb

/-- Slices of slices: the place's size is the element type's. -/
theorem sliceAtT_sim {ρ : Rho} {s : St} {w : World} {t : Nat} {u : TypeDesc} {x v : IV} {x' : Value} {lo hi mx : Option Nat} {lo' hi' mx' : Option Value} (h : Rel P γ ρ s w) (hu : undI P t = some u) (hx : VR ρ γ x x')
    (hl : NR ρ γ lo lo') (hh : NR ρ γ hi hi') (hm : NR ρ γ mx mx') (hmx : mx = none ∨ hi ≠ none) (hsz : ∀ b o n c p e, x = .sl b o n c false → u = .slice e → ρ b = some p → size P e = some p.sz)
    (hr : sliceAtT P u x lo hi mx = some v) : Yields P γ ρ s w (Instr.sliceAt t x' lo' hi' mx') v s := by
  have hu' := undI_eq hu
  unfold sliceAtT at hr
  split at hr
  · -- a text
    cases x <;> simp only at hr <;> (try (cases hr; done))
    rename_i l
    · cases hx with
      | str sx _ hl0 =>
        cases mx with
        | some _ => cases hr
        | none =>
          cases mx' with
          | some _ => exact hm.elim
          | none =>
            simp only at hr
            unfold cutStr at hr
            cases h1 : Nat.ble (dflt 0 lo) (dflt l.length hi) with
            | false => simp [h1] at hr
            | true =>
              simp only [h1] at hr
              have hle := Nat.le_of_ble_eq_true h1
              cases hd : dropN (dflt 0 lo) l with
              | none => simp [hd] at hr
              | some r =>
                simp only [hd] at hr
                cases ht : takeL (dflt l.length hi - dflt 0 lo) r with
                | none => simp [ht] at hr
                | some q =>
                  simp only [ht] at hr; cases hr
                  obtain ⟨hd1, rfl⟩ := dropN_eq hd
                  obtain ⟨ht1, rfl⟩ := takeL_eq ht
                  have hlen : l.length = sx.size := by subst hl0; simp
                  simp only [List.length_drop] at ht1
                  have hb := bounds_sim (P := P) (γ := γ) (ρ := ρ) (w := w) (isSl := false) (len := sx.size) (cap := sx.size) hl hh (mx := none) (mx' := none) trivial (.inl rfl) (by rw [← hlen]; exact hle) (by rw [← hlen]; show dflt l.length hi ≤ l.length; omega) (Nat.le_refl _)
                  refine Yields.same h ?_ (.str (sx.extract (dflt 0 lo) (dflt sx.size hi)) _ ?_)
                  · unfold Instr.sliceAt Instr.slice
                    simp only [Sem.run_bind, run_underlying hu', Result.andThen_ok, Option.isSome_none, Bool.false_eq_true, if_false, hb, Sem.run_pure]
                  · subst hl0
                    rw [ByteArray.data_extract, Array.toList_extract, List.extract_eq_take_drop, List.map_take, List.map_drop, hlen]
    · rename_i l
      cases hx with
      | sstr sx _ hl0 hlc =>
        cases mx with
        | some _ => cases hr
        | none =>
          cases mx' with
          | some _ => exact hm.elim
          | none =>
            simp only at hr
            unfold cutSS at hr
            cases h1 : Nat.ble (dflt 0 lo) (dflt l.length hi) with
            | false => simp [h1] at hr
            | true =>
              simp only [h1] at hr
              have hle := Nat.le_of_ble_eq_true h1
              cases hd : dropN (dflt 0 lo) l with
              | none => simp [hd] at hr
              | some r =>
                simp only [hd] at hr
                cases ht : takeL (dflt l.length hi - dflt 0 lo) r with
                | none => simp [ht] at hr
                | some q =>
                  simp only [ht] at hr; cases hr
                  obtain ⟨hd1, rfl⟩ := dropN_eq hd
                  obtain ⟨ht1, rfl⟩ := takeL_eq ht
                  have hlen : l.length = sx.size := by have := congrArg List.length hl0; simpa using this.symm
                  simp only [List.length_drop] at ht1
                  have hb := bounds_sim (P := P) (γ := γ) (ρ := ρ) (w := w) (isSl := false) (len := sx.size) (cap := sx.size) hl hh (mx := none) (mx' := none) trivial (.inl rfl) (by rw [← hlen]; exact hle) (by rw [← hlen]; show dflt l.length hi ≤ l.length; omega) (Nat.le_refl _)
                  refine Yields.same h (v' := .string (sx.extract (dflt 0 lo) (dflt sx.size hi))) ?_ (textOf_rel ?_ ?_)
                  · unfold Instr.sliceAt Instr.slice
                    simp only [Sem.run_bind, run_underlying hu', Result.andThen_ok, Option.isSome_none, Bool.false_eq_true, if_false, hb, Sem.run_pure]
                  · rw [ByteArray.data_extract, Array.toList_extract, List.extract_eq_take_drop, List.map_take, List.map_drop, hl0, hlen, List.map_take, List.map_drop]
                  · exact fun c hc => hlc c (List.mem_of_mem_drop (List.mem_of_mem_take hc))
  · -- a slice
    rename_i e
    cases x <;> simp only at hr <;> (try (cases hr; done))
    · -- nil
      cases hx
      cases hes : size P e with
      | none => simp [hes] at hr
      | some sz =>
      simp only [hes] at hr
      cases hz : zeroOr lo && zeroOr hi && zeroOr mx with
      | false => simp [hz] at hr
      | true =>
        simp [hz] at hr; subst hr
        simp only [Bool.and_eq_true] at hz
        have hzero : ∀ {o : Option Nat} (d : Nat), zeroOr o = true → d = 0 → dflt d o = 0 := by
          intro o d ho hd
          cases o with
          | none => exact hd
          | some n => cases n with
            | zero => rfl
            | succ n => simp [zeroOr] at ho
        have e1 := hzero 0 hz.1.1 rfl
        have e2 := hzero 0 hz.1.2 rfl
        have e3 := hzero 0 hz.2 rfl
        have hb := bounds_sim (P := P) (γ := γ) (ρ := ρ) (w := w) (isSl := true) (len := 0) (cap := 0) hl hh hm hmx (by omega) (by omega) (by omega)
        rw [e1, e2, e3] at hb
        refine Yields.same h ?_ .nilsl
        unfold Instr.sliceAt Instr.slice
        simp only [Sem.run_bind, run_underlying hu', Result.andThen_ok, hb, run_sizeOf hes, Sem.run_pure]
        rfl
    · rename_i b o n c ex
      cases hes : size P e with
      | none => simp [hes] at hr
      | some sz =>
        simp only [hes] at hr
        obtain ⟨h1, h2, h3, rfl⟩ := cutSl_inv hr
        obtain ⟨p, off, c', hb, rfl, hoff, hcc, hex1, hex2⟩ := hx.sl_inv
        have hm' : dflt c mx ≤ dflt c' mx := by cases mx <;> simp [dflt]; exact hcc
        have hm'' : dflt c' mx ≤ c' := by cases mx with
          | none => simp [dflt]
          | some q => simp only [dflt] at h3 ⊢; omega
        have hbd := bounds_sim (P := P) (γ := γ) (ρ := ρ) (w := w) (isSl := true) (len := n) (cap := c') hl hh hm hmx h1 (Nat.le_trans h2 hm') hm''
        refine Yields.same h (v' := .slice (some (if dflt c' mx = dflt 0 lo then (⟨p.blk, off, none⟩ : Addr) else Addr.add ⟨p.blk, off, none⟩ (dflt 0 lo * sz))) (dflt n hi - dflt 0 lo) (dflt c' mx - dflt 0 lo)) ?_ ?_
        · unfold Instr.sliceAt Instr.slice
          simp only [Sem.run_bind, run_underlying hu', Result.andThen_ok, hbd, run_sizeOf hes, Sem.run_pure]
          congr 2
          split <;> rfl
        · -- the relation
          cases ex with
          | true =>
            obtain ⟨rfl, rfl⟩ := hex1 rfl
            simp only [Bool.true_or]
            exact cut_exact (hh := 0) hb
          | false =>
            obtain ⟨hnc, ho, hlim⟩ := hex2 rfl
            have hpsz : p.sz = sz := by
              have := hsz b o n c p e rfl rfl hb
              rw [hes] at this; exact (Option.some.inj this).symm
            subst hpsz
            have hge : p.shift ≤ off := by
              rcases ho with h | h <;> omega
            by_cases hz0 : c = 0
            · subst hz0
              have hq0 : dflt 0 mx = 0 := by omega
              have hl0 : dflt 0 lo = 0 := by omega
              have hh0 : dflt n hi = 0 := by omega
              have e0 : (false || (isSome' mx && !(Nat.beq 0 0))) = false := by cases mx <;> rfl
              rw [e0, hl0, hh0, hq0]
              simp only [if_true, Nat.sub_zero]
              have e1 : (if dflt c' mx = 0 then (⟨p.blk, off, none⟩ : Addr) else Addr.add ⟨p.blk, off, none⟩ (0 * p.sz)) = ⟨p.blk, off, none⟩ := by
                split
                · rfl
                · rw [add_none]; simp
              rw [e1]
              refine .sli b o 0 0 (dflt c' mx) off p hb (Nat.le_refl _) (Nat.zero_le _) (.inr ⟨rfl, hge⟩) ?_
              exact Nat.le_trans (Nat.add_le_add_left (Nat.mul_le_mul_right _ hm'') _) hlim
            · have hoff' : off = p.shift + o := ho.resolve_right (fun h => hz0 h.1)
              subst hoff'
              have hcb : Nat.beq c 0 = false := by
                cases hb0 : Nat.beq c 0 with
                | false => rfl
                | true => exact absurd (Nat.eq_of_beq_eq_true hb0) hz0
              cases mx with
              | some q =>
                have e0 : (false || (isSome' (some q) && !(Nat.beq c 0))) = true := by rw [hcb]; rfl
                rw [e0]
                exact cut_exact (hh := 0) hb
              | none =>
                have e1 : dflt c none = c := rfl
                have e2 : dflt c' none = c' := rfl
                have e3 : (false || (isSome' none && !(Nat.beq c 0))) = false := rfl
                rw [e1] at h2
                rw [e1, e2, e3]
                generalize dflt 0 lo = L at h1 h2 ⊢
                generalize dflt n hi = H at h1 h2 ⊢
                have hsum : L * p.sz + (c' - L) * p.sz = c' * p.sz := by
                  rw [← Nat.add_mul]; congr 1; omega
                by_cases hcl : c = L
                · subst hcl
                  rw [if_pos rfl, Nat.sub_self]
                  have hH : H - c = 0 := by omega
                  rw [hH]
                  by_cases hc' : c' = c
                  · subst hc'
                    rw [if_pos rfl, Nat.sub_self]
                    exact .sli b o 0 0 0 (p.shift + o) p hb (Nat.le_refl _) (Nat.le_refl _) (.inl rfl) (by simp; omega)
                  · rw [if_neg hc', add_none]
                    refine .sli b o 0 0 (c' - c) (p.shift + o + c * p.sz) p hb (Nat.le_refl _) (Nat.zero_le _) (.inr ⟨rfl, by omega⟩) ?_
                    omega
                · have hc' : c' ≠ L := by omega
                  rw [if_neg hcl, if_neg hc', add_none]
                  refine .sli b (o + L * p.sz) (H - L) (c - L) (c' - L) (p.shift + o + L * p.sz) p hb (by omega) (by omega) (.inl (by omega)) ?_
                  omega
  · -- an array
    rename_i n e
    cases x <;> simp only at hr <;> (try (cases hr; done))
    rename_i b o
    cases hx with
    | ptr _ _ p hb =>
      cases hes : size P e with
      | none => simp [hes] at hr
      | some sz =>
        simp only [hes] at hr
        obtain ⟨h1, h2, h3, rfl⟩ := cutSl_inv hr
        have hbd := bounds_sim (P := P) (γ := γ) (ρ := ρ) (w := w) (isSl := false) (len := n) (cap := n) hl hh hm hmx h1 h2 h3
        refine Yields.same h ?_ (cut_exact (hh := 0) hb)
        unfold Instr.sliceAt
        simp only [Sem.run_bind, run_underlying hu', Result.andThen_ok, Instr.sureAddr, hbd, run_sizeOf hes, Sem.run_pure]
  · cases hr
end Go.Eng
