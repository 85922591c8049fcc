/- A part of the proof: an interpreter of the program, shown right once, and the laws that it computes. -/
import Derived.Test.YtpanfhfcpniodaaGreatDoorEng19
import Derived.Lib.UnsafeStr
set_option linter.constructorNameAsVariable false
set_option linter.unusedVariables false
set_option linter.unusedSimpArgs false
namespace Go.Eng
variable {P : Program} {γ : Gam}

theorem pick_sim {ρ : Rho} {s s' : St} {w : World} {c a b v : IV} {c' a' b' : Value} (h : Rel P γ ρ s w) (hc : VR ρ γ c c') (ha : VR ρ γ a a') (hb : VR ρ γ b b') (hr : pickB c a b s = .ok v s') :
    Yields P γ ρ s w (do pure (if ← asBool c' then a' else b')) v s' := by
  unfold pickB at hr
  cases c <;> simp only [IV.onBool] at hr <;> (try (cases hr; done))
  rename_i t
  cases hc
  cases t <;> (cases hr; first | exact Yields.same h rfl ha | exact Yields.same h rfl hb)

theorem iface_sim {ρ : Rho} {s : St} {w : World} {t : Nat} {u : TypeDesc} {x : IV} {x' : Value} (h : Rel P γ ρ s w) (hu : undI P t = some u) (hn : notIface u = true) (hx : VR ρ γ x x') :
    Yields P γ ρ s w (Instr.makeInterface t x') (.iface t x) s := by
  refine Yields.same h ?_ (.iface _ _ _ hx)
  unfold Instr.makeInterface
  simp only [Sem.run_bind, run_underlying (undI_eq hu), Result.andThen_ok]
  cases u <;> first | rfl | cases hn


/-- The first so many of what is copied. -/
theorem source_first {ρ : Rho} {s : St} {w : World} {sz m k : Nat} {y : IV} {y' : Value} {new : List IV} (h : Rel P γ ρ s w) (hy : VR ρ γ y y') (hr : sourceOf s sz y = .mk new m) (hk : k ≤ m) :
    ∃ new', (Builtin.firstCells sz k y').run P w = .ok new' w ∧ VRs ρ γ (new.take (k * sz)) new'.toList := by
  unfold sourceOf at hr
  cases y <;> simp only at hr <;> (try (cases hr; done))
  · rename_i l
    split at hr
    · cases hr
      cases hy with
      | str bs _ hl =>
        subst hl
        have hlen : (bs.data.toList.map UInt8.toNat).length = bs.size := by simp
        rw [hlen] at hk
        refine ⟨(bs.extract 0 k).data.map fun b => .int .u8 b.toNat, rfl, ?_⟩
        have hb := bytesI_sim (ρ := ρ) (γ := γ) bs.data.toList
        have e1 : ((bs.extract 0 k).data.map fun b => Value.int .u8 b.toNat).toList = (bs.data.toList.map fun b => Value.int .u8 b.toNat).take k := by
          rw [Array.toList_map, ByteArray.data_extract, Array.toList_extract, List.extract_eq_take_drop, List.drop_zero, Nat.sub_zero, List.map_take]
        rw [e1, Nat.mul_one]
        refine VRs.of_get (by simp [length_bytesI]) fun j v hj => ?_
        rw [List.getElem?_take] at hj
        split at hj <;> (try (cases hj; done))
        rename_i hjk
        obtain ⟨v', h1, h2⟩ := hb.get hj
        exact ⟨v', by rw [List.getElem?_take, if_pos hjk]; exact h1, h2⟩
    · cases hr
  · cases hr
    cases hy
    exact ⟨#[], rfl, by simpa using VRs.nil⟩
  · rename_i b o n c ex
    unfold srcOf at hr
    cases hrd : s.rd b o (n * sz) with
    | none => simp only [Nat.mul_eq] at hr; rw [hrd] at hr; cases hr
    | some l =>
      simp only [Nat.mul_eq] at hr
      rw [hrd] at hr
      simp only at hr
      cases hr
      obtain ⟨p, off, c', hb, rfl, hoff, _⟩ := hy.sl_inv
      obtain ⟨arr, e2, fr, h1, h2, h3⟩ := h.rd hb hrd
      by_cases hz : k = 0
      · subst hz
        refine ⟨#[], ?_, ?_⟩
        · show (loadCells _ (0 * sz)).run P w = _
          rw [Nat.zero_mul]; rfl
        · rw [Nat.zero_mul]; exact .nil
      · have := hoff.resolve_left (by omega)
        subst this
        have hks : k * sz ≤ m * sz := Nat.mul_le_mul_right _ hk
        refine ⟨_, run_loadCells h1 (by omega), ?_⟩
        have hl3 := h3.length
        refine VRs.of_get ?_ fun j v hj => ?_
        · simp at hl3 ⊢; omega
        · rw [List.getElem?_take] at hj
          split at hj <;> (try (cases hj; done))
          rename_i hjk
          obtain ⟨v', q1, q2⟩ := h3.get hj
          refine ⟨v', ?_, q2⟩
          rw [Array.getElem?_toList, Array.getElem?_extract] at q1 ⊢
          rw [if_pos (by omega)] at q1
          rw [if_pos (by omega)]
          exact q1

theorem copy_sim {ρ : Rho} {s s' : St} {w : World} {ts : Array TypeId} {rt : TypeId} {e sz : Nat} {x y v : IV} {x' y' : Value} (h : Rel P γ ρ s w) (he : elemSz P ts = some (e, sz))
    (hx : VR ρ γ x x') (hy : VR ρ γ y y') (hr : doCopy sz s x y = .ok v s') : Yields P γ ρ s w (Builtin.copy_ ts rt #[x', y']) v s' := by
  obtain ⟨t0, ht0, hu0, hsz, hsz0⟩ := elemSz_eq he
  unfold doCopy at hr
  cases hsrc : sourceOf s sz y with
  | no => rw [hsrc] at hr; cases hr
  | mk new m =>
    rw [hsrc] at hr
    simp only at hr
    obtain ⟨hnl, hlen, _⟩ := source_sim h hy hsrc
    unfold copyTo at hr
    cases x <;> simp only at hr <;> (try (cases hr; done))
    · cases hx; cases hr
      obtain ⟨new', q1, q2⟩ := source_first (k := 0) h hy hsrc (Nat.zero_le _)
      refine Yields.same h ?_ (.int _ _)
      unfold Builtin.copy_
      simp only [ht0, List.getElem?_toArray, List.getElem?_cons_zero, List.getElem?_cons_succ, Sem.run_bind, run_underlying hu0, Result.andThen_ok, hlen w rfl, run_sizeOf hsz, show Nat.min m 0 = 0 from Nat.min_zero _, q1, Sem.run_pure]
      rfl
    · rename_i b o n c ex
      obtain ⟨p, off, c', hb, rfl, hoff, _⟩ := hx.sl_inv
      obtain ⟨new', q1, q2⟩ := source_first (k := min m n) h hy hsrc (Nat.min_le_left _ _)
      split at hr <;> (try (cases hr; done))
      rename_i l hl
      obtain ⟨hl1, rfl⟩ := takeN_eq hl
      cases hw : s.wr b o (new.take (min m n * sz)) with
      | no => rw [hw] at hr; cases hr
      | ok s1 =>
        rw [hw] at hr
        simp only [withSl] at hr
        injection hr with hv hs
        subst hv hs
        obtain ⟨w', hst, hgo, hrel⟩ := h.wr hb q2 hw
        have hst' : (storeCells ⟨p.blk, off, none⟩ new'.toList).run P w = .ok () w' := by
          by_cases hz : n = 0
          · have : new'.toList = [] := by
              have := q2.length
              rw [hz, Nat.min_zero, Nat.zero_mul, List.take_zero] at this
              exact List.length_eq_zero_iff.1 this.symm
            rw [this] at hst ⊢
            exact hst
          · rw [hoff.resolve_left hz]; exact hst
        refine ⟨_, w', ρ, ?_, hgo, hrel, .int _ _⟩
        unfold Builtin.copy_
        simp only [ht0, List.getElem?_toArray, List.getElem?_cons_zero, List.getElem?_cons_succ, Sem.run_bind, run_underlying hu0, Result.andThen_ok, hlen w rfl, run_sizeOf hsz, show Nat.min m n = min m n from rfl, q1, hst', Sem.run_pure]
        rfl

theorem clear_sim {ρ : Rho} {s s' : St} {w : World} {ts : Array TypeId} {rt : TypeId} {e : Nat} {z x v : IV} {x' : Value} (h : Rel P γ ρ s w) (ht : argT P ts 0 = some (.slice e)) (hz : zero P e = some z)
    (hx : VR ρ γ x x') (hr : doClear z.cells s x = .ok v s') : Yields P γ ρ s w (Builtin.clear_ ts rt #[x']) v s' := by
  obtain ⟨t, ht1, ht2⟩ := argT_eq ht
  obtain ⟨zv, hz1, hz2⟩ := zero_rel (P := P) (ρ := ρ) (γ := γ) hz
  unfold doClear at hr
  cases x <;> simp only at hr <;> (try (cases hr; done))
  · cases hx; cases hr
    refine Yields.same h ?_ (.tup [] #[] .nil)
    unfold Builtin.clear_
    simp only [ht1, List.getElem?_toArray, List.getElem?_cons_zero, Sem.run_bind, run_underlying ht2, Result.andThen_ok, Sem.run_pure]
  · rename_i b o n c ex
    obtain ⟨p, off, c', hb, rfl, hoff, _⟩ := hx.sl_inv
    cases hw : s.wr b o (rep n z.cells) with
    | no => rw [hw] at hr; cases hr
    | ok s1 =>
      rw [hw] at hr
      change R.ok undefI s1 = _ at hr
      injection hr with hv hs
      subst hv hs
      have hzr : VRs ρ γ (rep n z.cells) (Builtin.zeroCells zv.cells n).toList := rep_sim hz2.cells rfl
      obtain ⟨w', hst, hgo, hrel⟩ := h.wr hb hzr hw
      refine ⟨_, w', ρ, ?_, hgo, hrel, .tup [] #[] .nil⟩
      unfold Builtin.clear_
      simp only [ht1, List.getElem?_toArray, List.getElem?_cons_zero, Sem.run_bind, run_underlying ht2, Result.andThen_ok]
      cases n with
      | zero =>
        have : (Builtin.zeroCells zv.cells 0).toList = [] := by simp [Builtin.zeroCells]
        rw [this] at hst
        cases hst
        rfl
      | succ n =>
        have := hoff.resolve_left (by omega)
        subst this
        simp only [Sem.run_bind, hz1 w, Result.andThen_ok, hst, Sem.run_pure]

theorem run_asInt (k : IntKind) (n : Int) (w : World) : (asInt (.int k n)).run P w = .ok n w := rfl

theorem lies_bytes {e off n size : Nat} (hs : Go.Eng.size P e = some 1) (hn : off + n ≤ size) : liesAt P P.depth e (size / P.cellsOf e) off e n = true := by
  have hc := cellsOf_eq hs
  obtain ⟨d, hd⟩ := depth_succ P
  rw [hd]
  unfold liesAt
  rw [hd]
  unfold rowAt
  have hsame : sameLayout P (d + 1) e e = true := by unfold sameLayout; simp
  simp [hc, hn, hsame, Nat.mod_one]

theorem unsafeString_some (ts : Array TypeId) (ty : TypeId) (a : Addr) (y : Value) : Builtin.unsafeString_ ts ty #[.pointer (some a), y] =
    (do
      let n ← asInt y
      let some pt := ts[0]? | stuck "unsafe.String: no argument types"
      if n < 0 then runtimePanic (.error "unsafe.String: len out of range")
      if n > IntKind.i64.max then unsupported (.unsafePointer "String: a length above the largest int")
      if n = 0 then pure (.string .empty)
      else if ← variablesAt a (← elemOf pt) n.toNat then do
        let s ← loadBytes a .empty n.toNat
        freeze a n.toNat
        pure (.string s)
      else unsupported (.unsafePointer "String: not so many bytes at ptr")) := rfl
theorem unsafeString_nil (ts : Array TypeId) (ty : TypeId) (y : Value) : Builtin.unsafeString_ ts ty #[.pointer none, y] =
    (do
      let n ← asInt y
      let some pt := ts[0]? | stuck "unsafe.String: no argument types"
      if n < 0 then runtimePanic (.error "unsafe.String: len out of range")
      if n > IntKind.i64.max then unsupported (.unsafePointer "String: a length above the largest int")
      if n = 0 then pure (.string .empty)
      else runtimePanic (.error "unsafe.String: ptr is nil and len is not zero")) := rfl

theorem string_sim {ρ : Rho} {s s' : St} {w : World} {ts : Array TypeId} {rt : TypeId} {e : Nat} {x y v : IV} {x' y' : Value} (h : Rel P γ ρ s w) (he : ptrElem P ts = some e)
    (hx : VR ρ γ x x') (hy : VR ρ γ y y') (hr : doString e x y s = .ok v s') : Yields P γ ρ s w (Builtin.unsafeString_ ts rt #[x', y']) v s' := by
  unfold ptrElem at he
  split at he <;> (try (cases he; done))
  rename_i e1 harg
  split at he <;> (try (cases he; done))
  rename_i hb
  cases he
  obtain ⟨t, ht1, ht2⟩ := argT_eq harg
  obtain ⟨hu, hsz⟩ := isByte_eq hb
  unfold doString at hr
  cases hn : y.nat with
  | none => rw [hn] at hr; cases hr
  | some n =>
    rw [hn] at hr
    obtain ⟨k, rfl⟩ := nat_inv hy hn
    simp only at hr
    have hneg : ¬ (Int.ofNat n < 0) := Int.not_lt.2 (Int.natCast_nonneg n)
    cases n with
    | zero =>
      simp only at hr
      cases x <;> simp only at hr <;> (try (cases hr; done))
      · cases hx; cases hr
        refine Yields.same h ?_ (.str .empty [] rfl)
        rw [unsafeString_nil]
        simp only [Sem.run_bind, run_asInt, ht1, Result.andThen_ok]
        rfl
      · cases hx; cases hr
        refine Yields.same h ?_ (.str .empty [] rfl)
        rw [unsafeString_some]
        simp only [Sem.run_bind, run_asInt, ht1, Result.andThen_ok]
        rfl
    | succ n =>
      simp only at hr
      cases x <;> simp only at hr <;> (try (cases hr; done))
      rename_i b o
      cases hx
      rename_i p hb'
      unfold freezeIn at hr
      split at hr <;> (try (cases hr; done))
      rename_i c len e' fz tag hg
      split at hr <;> (try (cases hr; done))
      rename_i htag
      split at hr <;> (try (cases hr; done))
      rename_i hc
      simp only [Bool.and_eq_true] at hc
      obtain ⟨⟨hc1, hc2⟩, hc3⟩ := hc
      have he' := Nat.eq_of_beq_eq_true hc1
      subst he'
      have hlen : o + (n + 1) ≤ len := Nat.le_of_ble_eq_true hc2
      have htop : n + 1 ≤ top64 := Nat.le_of_ble_eq_true hc3
      split at hr <;> (try (cases hr; done))
      rename_i r hbs
      injection hr with hv hs
      subst hv hs
      obtain ⟨arr, fr, h1, h2⟩ := h.row hb' hg
      have hbig : ¬ (Int.ofNat (n + 1) > IntKind.i64.max) := by
        have : IntKind.i64.max = Int.ofNat top64 := by decide
        rw [this]
        exact Int.not_lt.2 (Int.ofNat_le.2 htop)
      have hne0 : Int.ofNat (n + 1) ≠ 0 := fun h => absurd (Int.ofNat.inj (h : Int.ofNat (n + 1) = Int.ofNat 0)) (Nat.succ_ne_zero n)
      have htoN : (Int.ofNat (n + 1)).toNat = n + 1 := rfl
      cases h2 with
      | cells _ _ _ _ _ _ _ hl' ha hcs hf hst htg hz =>
        have hrd : VRs ρ γ (rdC c (n + 1) o) (arr.extract (p.shift + o) (p.shift + o + (n + 1))).toList := by
          have hsz1 : p.shift + o + (n + 1) ≤ arr.size := by omega
          have hsz2 : (rdC c (n + 1) o).length = (arr.extract (p.shift + o) (p.shift + o + (n + 1))).toList.length := by
            rw [length_rdC, Array.length_toList, Array.size_extract]; omega
          refine VRs.of_get hsz2 ?_
          intro k v hk
          have hk' : k < n + 1 := by have := (List.getElem?_eq_some_iff.1 hk).1; rwa [length_rdC] at this
          rw [get_rdC c _ _ _ hk'] at hk
          cases hk
          obtain ⟨v', q1, q2⟩ := hcs (o + k) (by omega)
          refine ⟨v', ?_, q2⟩
          rw [Array.getElem?_toList, Array.getElem?_extract, if_pos (by omega), Nat.add_assoc]
          exact q1
        obtain ⟨q1, q2⟩ := bytesOfI_sim hrd hbs
        have hrl : r.length = n + 1 := by
          have := hrd.length; rw [length_rdC] at this; rw [this, q1]; simp
        let bs : List UInt8 := r.map UInt8.ofNat
        have hbl : bs.length = n + 1 := by simp [bs, hrl]
        have hbn : bs.map UInt8.toNat = r := by
          show (r.map UInt8.ofNat).map UInt8.toNat = r
          rw [List.map_map]
          conv => rhs; rw [← List.map_id r]
          exact List.map_congr_left fun c hc => toNat_ofNat (q2 c hc)
        have hload : (loadBytes ⟨p.blk, p.shift + o, none⟩ .empty (n + 1)).run P w = .ok ⟨(ByteArray.empty).data ++ bs.toArray⟩ w := by
          have := Lib.run_loadBytes (P := P) w bs ⟨p.blk, p.shift + o, none⟩ .empty (by
            intro j x hj
            have hj' : j < bs.length := (List.getElem?_eq_some_iff.1 hj).1
            have e1 : ((⟨p.blk, p.shift + o, none⟩ : Addr).add j) = ⟨p.blk, p.shift + o + j, none⟩ := add_none ..
            rw [e1]
            have e2 : (arr.extract (p.shift + o) (p.shift + o + (n + 1))).toList[j]? = some (.int .u8 x.toNat) := by
              rw [q1, ← hbn, List.map_map, List.getElem?_map, hj]; rfl
            rw [Array.getElem?_toList, Array.getElem?_extract, if_pos (by omega)] at e2
            unfold World.cell?
            simp only [h1]
            exact e2)
          rw [hbl] at this
          exact this
        have hput := h.put (x := .cells c len e (max fz (o + (n + 1))) tag) (o := .cells arr e (if fr.1 == fr.2 then (p.shift + o, p.shift + o + (n + 1)) else (min fr.1 (p.shift + o), max fr.2 (p.shift + o + (n + 1))))) hb' (by rw [hg]; exact fun h => h) (by
          have htag' : tag ≠ 1 := by intro e; subst e; cases htag
          obtain ⟨hs1, hs2⟩ := hst htag'
          refine .cells _ _ _ _ _ _ _ hl' ha hcs ?_ ?_ htg hz
          · intro j hj1 hj2
            split
            · simp only; omega
            · rename_i hfr
              have : fr.1 ≠ fr.2 := by simpa using hfr
              rcases hs1 with hs1 | hs1
              · exact absurd hs1 this
              · simp only; omega
          · intro _
            refine ⟨.inr ?_, fun h0 => by omega⟩
            split
            · simp only; omega
            · rename_i hfr
              have : fr.1 ≠ fr.2 := by simpa using hfr
              rcases hs1 with hs1 | hs1
              · exact absurd hs1 this
              · simp only; omega)
        refine ⟨_, _, ρ, ?_, hput.2, hput.1, .str ⟨(ByteArray.empty).data ++ bs.toArray⟩ r (by show ((ByteArray.empty).data ++ bs.toArray).toList.map UInt8.toNat = r; simpa using hbn)⟩
        rw [unsafeString_some]
        have helem : (elemOf t).run P w = .ok e w := by
          unfold elemOf; simp only [Sem.run_bind, run_underlying ht2, Result.andThen_ok, Sem.run_pure]
        have hvar : (variablesAt ⟨p.blk, p.shift + o, none⟩ e (n + 1)).run P w = .ok true w := by
          unfold variablesAt
          simp only [Sem.run_bind, run_program, run_shape, shape_eq h1, Result.andThen_ok, Sem.run_pure, lies_bytes hsz (show p.shift + o + (n + 1) ≤ arr.size by omega)]
        simp only [Sem.run_bind, run_asInt, ht1, Result.andThen_ok, Sem.run_pure, List.getElem?_toArray, List.getElem?_cons_zero, if_neg hneg, if_neg hbig, if_neg hne0, helem, htoN, hvar, if_true, hload, run_freeze, freeze_eq h1 (by omega : n + 1 ≠ 0)]
end Go.Eng
