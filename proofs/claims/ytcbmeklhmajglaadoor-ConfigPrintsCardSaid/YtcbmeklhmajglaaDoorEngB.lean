/- A part of the proof: an interpreter of the program, shown right once, and the laws that it computes. No condition beyond those of the statement. -/
import Derived.Test.YtcbmeklhmajglaaDoorEngA
import Derived.Lib.UnsafeStr
import Derived.Lib.Bytealg
import Derived.Lib.MakeNoZero
import Derived.Still
import Derived.Below
section
set_option linter.constructorNameAsVariable false
set_option linter.unusedVariables false
set_option linter.unusedSimpArgs false
namespace Go.Eng
variable {P : Program} {γ : Gam}

theorem size_zeroCells (z : Array Value) (n : Nat) : (Builtin.zeroCells z n).size = n * z.size := by
  unfold Builtin.zeroCells; simp

theorem notInt_eq {ts : Array TypeId} (h : notIntT P ts = true) : ∃ t1 d, ts[1]? = some t1 ∧ P.underlying t1 = some d ∧ ∀ q, d ≠ .int q := by
  unfold notIntT at h
  split at h
  · cases h
  · rename_i d hne hd
    obtain ⟨t, ht, hu⟩ := argT_eq hd
    exact ⟨t, d, ht, hu, fun q e => by subst e; exact hne _ rfl⟩
  · cases h

theorem elemSz_eq {ts : Array TypeId} {e sz : Nat} (h : elemSz P ts = some (e, sz)) : ∃ t0, ts[0]? = some t0 ∧ P.underlying t0 = some (.slice e) ∧ size P e = some sz ∧ sz ≠ 0 := by
  unfold elemSz at h
  split at h
  · rename_i e' he
    split at h
    · rename_i z hz
      cases h
      obtain ⟨t, ht, hu⟩ := argT_eq he
      exact ⟨t, ht, hu, hz, by omega⟩
    · cases h
  · cases h

/-- A new row, made by an append. -/
theorem grown_new {ρ : Rho} {s : St} {w : World} (fz tag : Nat) (h : Rel P γ ρ s w) {c : PT IV} {e sz len cap tot : Nat} {arr : Array Value} (hsz : size P e = some sz) (hlen : len = tot * sz) (hcap : tot ≤ cap) (harr : arr.size = cap * sz)
    (hc : ∀ ρ', Le ρ ρ' → ∀ j, j < len → ∃ v', arr[j]? = some v' ∧ VR ρ' γ (PT.get undefI c j) v') :
    ∃ ρ', Goes ρ s w ρ' (s.new (.cells c len e fz tag)) (pushed w (.cells arr e)) ∧ Rel P γ ρ' (s.new (.cells c len e fz tag)) (pushed w (.cells arr e)) ∧
      VR ρ' γ (.sl s.next 0 tot tot false) (.slice (some ⟨w.heap.size, 0, none⟩) tot cap) := by
  let p : Pl := ⟨w.heap.size, 0, cap * sz, sz⟩
  have hle := h.le_with p
  have hmul : tot * sz ≤ cap * sz := Nat.mul_le_mul_right _ hcap
  obtain ⟨h1, h2⟩ := h.new (p := p) rfl (x := .cells c len e fz tag) (o := .cells arr e) (by
    refine .cells _ _ _ _ _ _ _ (by show 0 + len ≤ cap * sz; omega) (by show cap * sz ≤ arr.size; omega) ?_ (by intro j _ _ hj; simp at hj) (fun _ => ⟨.inl rfl, fun _ => rfl⟩) (fun _ => rfl) hsz
    intro j hj
    obtain ⟨v', hv1, hv2⟩ := hc _ hle j hj
    exact ⟨v', by show arr[0 + j]? = _; rw [Nat.zero_add]; exact hv1, hv2⟩)
  exact ⟨_, h2, h1, .sli s.next 0 tot tot cap 0 p (Rho.with_self _ _ _) (Nat.le_refl _) hcap (.inl rfl) (by show 0 + cap * sz ≤ cap * sz; omega)⟩

theorem append_sim {ρ : Rho} {s s' : St} {w : World} {ts : Array TypeId} {rt : TypeId} {e sz : Nat} {x y v : IV} {x' y' : Value} (h : Rel P γ ρ s w) (he : elemSz P ts = some (e, sz)) (hni : notIntT P ts = true) (hzi : zeroIs P e sz = true)
    (hx : VR ρ γ x x') (hy : VR ρ γ y y') (hr : Eng.append P e sz s x y = .ok v s') : Yields P γ ρ s w (Builtin.append_ ts rt #[x', y']) v s' := by
  obtain ⟨t0, ht0, hu0, hsz, hsz0⟩ := elemSz_eq he
  obtain ⟨t1, d, ht1, hu1, hd⟩ := notInt_eq hni
  obtain ⟨z, hz, hzl⟩ : ∃ z, zero P e = some z ∧ z.cells.length = sz := by
    unfold zeroIs at hzi
    split at hzi
    · rename_i z hz; exact ⟨z, hz, Nat.eq_of_beq_eq_true hzi⟩
    · cases hzi
  obtain ⟨zv, hzrun, hzr⟩ := zero_rel (P := P) (ρ := ρ) (γ := γ) hz
  have hzs : zv.cells.size = sz := by have := hzr.cells.length; simp at this; omega
  have hnz : (match d with | .int _ => true | _ => false) = false := by cases d <;> first | rfl | exact absurd rfl (hd _)
  unfold Eng.append at hr
  cases hsrc : sourceOf s sz y with
  | no => rw [hsrc] at hr; cases hr
  | mk new m =>
    rw [hsrc] at hr
    simp only at hr
    obtain ⟨hnl, hlen, new', hnew, hnr⟩ := source_sim h hy hsrc
    have hnl' : new'.size = m * sz := by have := hnr.length; simp at this; omega
    unfold appendTo at hr
    cases x <;> simp only at hr <;> (try (cases hr; done))
    · -- nil
      cases hx
      cases m with
      | zero =>
        cases hr
        refine Yields.same h ?_ .nilsl
        unfold Builtin.append_
        simp only [ht0, ht1, List.getElem?_toArray, List.getElem?_cons_zero, List.getElem?_cons_succ, Sem.run_bind, run_underlying hu0, run_underlying hu1, Result.andThen_ok, run_sizeOf hsz, Sem.run_pure, hnz, Bool.false_eq_true, if_false, hlen w rfl,
          Nat.add_zero, Nat.le_refl, if_true, Bool.not_false, hnew w rfl]
      | succ m =>
        simp only at hr
        cases hroom : roomOk P e (m + 1) with
        | false => rw [hroom] at hr; cases hr
        | true =>
          rw [hroom] at hr
          simp only at hr
          injection hr with hv hs
          subst hv hs
          obtain ⟨i, k, hi, hk, hrm⟩ := room_inv hroom
          obtain ⟨newCap, hcap, hrun⟩ := append_grows (P := P) (w := w) (rt := rt) (n := 0) (c' := 0) (base := none) (old' := #[]) ht0 hu0 ht1 hu1 hd hsz hi hk (by simpa using hrm) hzrun (hlen w rfl) (by omega) rfl (hnew (drawn w) rfl)
          simp only [Nat.zero_add] at hcap hrun
          obtain ⟨ρ', h1, h2, h3⟩ := grown_new 0 0 h.drawn (c := wrC new .e 0) (e := e) (len := new.length) (tot := m + 1) (cap := newCap) (arr := #[] ++ new' ++ Builtin.zeroCells zv.cells (newCap - (m + 1))) hsz hnl hcap
            (by simp [size_zeroCells, hnl', hzs]; rw [← Nat.add_mul]; congr 1; omega) (by
              intro ρ' hle j hj
              rw [get_wrC, dif_pos (by omega)]
              have hk' : new[j - 0]? = some (new[j - 0]'(by omega)) := List.getElem?_eq_getElem (by omega)
              obtain ⟨v', hv1, hv2⟩ := hnr.get hk'
              refine ⟨v', ?_, hv2.mono hle⟩
              rw [Array.getElem?_append_left (by simp; omega), Array.getElem?_append_right (by simp)]
              simpa using hv1)
          exact ⟨_, _, ρ', hrun, (Goes.drawn ρ s w).trans h1, h2, h3⟩
    · rename_i b o n c ex
      obtain ⟨p, off, c', hb, rfl, hoff, hcc, hex1, hex2⟩ := hx.sl_inv
      have key : ∀ {v : IV} {s' : St}, (ex = true → c < n + m) → growIn P s e sz b o n m ex new (s.get b) = .ok v s' → Yields P γ ρ s w (Builtin.append_ ts rt #[.slice (some ⟨p.blk, off, none⟩) n c', y']) v s' := by
        clear hr
        intro v s' hnm hr
        unfold growIn at hr
        split at hr <;> (try (cases hr; done))
        rename_i cc len e' fz st hg
        split at hr <;> (try (cases hr; done))
        rename_i hroome
        simp only [Bool.and_eq_true] at hroome
        obtain ⟨hroom, hee⟩ := hroome
        have he' := Nat.eq_of_beq_eq_true hee
        subst he'
        split at hr <;> (try (cases hr; done))
        rename_i hin
        have hin' : o + n * sz ≤ len := Nat.le_of_ble_eq_true hin
        obtain ⟨i, k, hi, hk, hrm⟩ := room_inv hroom
        obtain ⟨arr, fr, hrow, hor⟩ := h.row hb hg
        cases hor with
        | cells _ _ _ _ _ _ _ hl' ha hc hf hs' htg hz' =>
          have hpsz : p.sz = sz := by rw [hsz] at hz'; exact (Option.some.inj hz').symm
          -- the old cells
          have hold : ∃ old' : Array Value, (∀ w', w'.heap = w.heap → (Builtin.firstCells sz n (.slice (some ⟨p.blk, off, none⟩) n c')).run P w' = .ok old' w') ∧ old'.size = n * sz ∧
              ∀ j, j < n * sz → ∃ v', old'[j]? = some v' ∧ VR ρ γ (PT.get undefI cc (o + j)) v' := by
            by_cases hz0 : n = 0
            · subst hz0
              refine ⟨#[], fun w' _ => ?_, by simp, fun j hj => by omega⟩
              show (loadCells _ (0 * sz)).run P w' = _
              rw [Nat.zero_mul]; rfl
            · have := hoff.resolve_left hz0
              subst this
              refine ⟨arr.extract (p.shift + o) (p.shift + o + n * sz), fun w' hw => run_loadCells (by rw [hw]; exact hrow) (by omega), by simp; omega, fun j hj => ?_⟩
              obtain ⟨v', hv1, hv2⟩ := hc (o + j) (by omega)
              refine ⟨v', ?_, hv2⟩
              rw [Array.getElem?_extract, if_pos (by omega), Nat.add_assoc]
              exact hv1
          obtain ⟨old', hold1, hold2, hold3⟩ := hold
          have hcont : ∀ ρ', Le ρ ρ' → ∀ (rest : Array Value), ∀ j, j < (n + m) * sz → ∃ v', (old' ++ new' ++ rest)[j]? = some v' ∧ VR ρ' γ (PT.get undefI (growRow cc len o n sz m new) j) v' := by
            intro ρ' hle' rest j hj
            rw [get_growRow cc len o n sz m new hnl j hj]
            by_cases hj1 : j < n * sz
            · rw [dif_pos hj1]
              obtain ⟨v', hv1, hv2⟩ := hold3 j hj1
              exact ⟨v', by rw [Array.getElem?_append_left (by simp; omega), Array.getElem?_append_left (by omega)]; exact hv1, hv2.mono hle'⟩
            · rw [dif_neg hj1]
              rw [Nat.add_mul] at hj
              have hk' : new[j - n * sz]? = some (new[j - n * sz]'(by omega)) := List.getElem?_eq_getElem (by omega)
              obtain ⟨v', hv1, hv2⟩ := hnr.get hk'
              refine ⟨v', ?_, hv2.mono hle'⟩
              rw [Array.getElem?_append_left (by simp; omega), Array.getElem?_append_right (by omega), hold2]
              simpa using hv1
          have hgrow : ∀ (s1 : St) (fz' tag' : Nat), Rel P γ ρ s1 w → c' < n + m → s1.next = s.next →
              ∃ v' w' ρ', (Builtin.append_ ts rt #[.slice (some ⟨p.blk, off, none⟩) n c', y']).run P w = .ok v' w' ∧ Goes ρ s1 w ρ' (s1.new (.cells (growRow cc len o n sz m new) ((n + m) * sz) e fz' tag')) w' ∧
                Rel P γ ρ' (s1.new (.cells (growRow cc len o n sz m new) ((n + m) * sz) e fz' tag')) w' ∧ VR ρ' γ (.sl s.next 0 (n + m) (n + m) false) v' := by
            intro s1 fz' tag' hs1 hlt hnx
            obtain ⟨newCap, hcap, hrun⟩ := append_grows (P := P) (w := w) (rt := rt) (n := n) (c' := c') ht0 hu0 ht1 hu1 hd hsz hi hk hrm hzrun (hlen w rfl) hlt (hold1 (drawn w) rfl) (hnew (drawn w) rfl)
            obtain ⟨ρ', h1, h2, h3⟩ := grown_new fz' tag' hs1.drawn (c := growRow cc len o n sz m new) (e := e) (len := (n + m) * sz) (tot := n + m) (cap := newCap) (arr := old' ++ new' ++ Builtin.zeroCells zv.cells (newCap - (n + m))) hsz rfl hcap
              (by simp [size_zeroCells, hnl', hzs, hold2]; rw [← Nat.add_mul, ← Nat.add_mul]; congr 1; omega) (fun ρ' hle' => hcont ρ' hle' _)
            rw [hnx] at h3
            exact ⟨_, _, ρ', hrun, (Goes.drawn ρ s1 w).trans h1, h2, h3⟩
          cases ex with
          | true =>
            obtain ⟨rfl, rfl⟩ := hex1 rfl
            simp only at hr
            injection hr with hv hs
            subst hv hs
            obtain ⟨v', w', ρ', q1, q2, q3, q4⟩ := hgrow s 0 0 h (hnm rfl) rfl
            exact ⟨v', w', ρ', q1, q2, q3, q4⟩
          | false =>
            simp only at hr
            obtain ⟨hnc, ho, hlim⟩ := hex2 rfl
            split at hr <;> (try (cases hr; done))
            rename_i hcond
            injection hr with hv hs
            subst hv hs
            simp only [Bool.and_eq_true, Bool.or_eq_true] at hcond
            obtain ⟨⟨hfz, hone⟩, hfo⟩ := hcond
            have hfz' : fz ≤ o + n * sz := Nat.le_of_ble_eq_true hfz
            have hfo' : fz = 0 ∨ o = 0 := hfo.imp Nat.eq_of_beq_eq_true Nat.eq_of_beq_eq_true
            have hoge : p.shift ≤ off := by rcases ho with h0 | h0 <;> omega
            have hfoff : p.shift + fz ≤ off + n * sz ∧ p.shift + fz ≤ off + (fz - o) := by
              rcases ho with h0 | ⟨h0, h1⟩
              · omega
              · have hn0 : n = 0 := by omega
                subst hn0
                rcases hfo' with h2 | h2 <;> omega
            have hfz0 : fz - o = 0 → fz = 0 := by intro h0; rcases hfo' with h2 | h2 <;> omega
            by_cases hroomy : n + m ≤ c'
            · -- in place
              let q : Pl := ⟨p.blk, off, p.lim, p.sz⟩
              have hq := h.le_with q
              have hlim' : off + (n + m) * sz ≤ p.lim := by
                have := Nat.mul_le_mul_right p.sz hroomy
                rw [hpsz] at this hlim
                omega
              have hrunS := run_storeCells (P := P) new'.toList w p.blk (off + n * sz) 0 arr e fr hrow (by simp; rw [Nat.add_mul] at hlim'; omega) (ones_of hnr hone) (fun j hj hj' => hf j (by omega) (by simp at hj'; rw [Nat.add_mul] at hlim'; omega))
              have hover := h.over (q := q) hb (by rw [hg]; exact fun h => h) rfl (x := .cells (growRow cc len o n sz m new) ((n + m) * sz) e (fz - o) (grownTag st)) (o := .cells (wrArr arr (off + n * sz) new'.toList) e fr) (by
                refine .cells _ _ _ _ _ _ _ hlim' (by rw [size_wrArr]; exact ha) ?_ ?_ ?_ ?_ hz'
                · intro j hj
                  rw [get_growRow cc len o n sz m new hnl j hj]
                  show ∃ v', (wrArr arr (off + n * sz) new'.toList)[off + j]? = some v' ∧ _
                  rw [get_wrArr _ _ _ _ (by simp; rw [Nat.add_mul] at hlim'; omega)]
                  by_cases hj1 : j < n * sz
                  · rw [dif_pos hj1, if_neg (by omega)]
                    have hn0 : n ≠ 0 := by intro e0; subst e0; omega
                    have := hoff.resolve_left hn0
                    subst this
                    obtain ⟨v', hv1, hv2⟩ := hc (o + j) (by omega)
                    exact ⟨v', by rw [Nat.add_assoc]; exact hv1, hv2.mono hq⟩
                  · rw [dif_neg hj1]
                    rw [Nat.add_mul] at hj
                    rw [if_pos (by simp; omega)]
                    have hk' : new[j - n * sz]? = some (new[j - n * sz]'(by omega)) := List.getElem?_eq_getElem (by omega)
                    obtain ⟨v', hv1, hv2⟩ := hnr.get hk'
                    exact ⟨v', by rw [show off + j - (off + n * sz) = j - n * sz by omega]; exact hv1, hv2.mono hq⟩
                · intro j hj1 hj2
                  exact hf j (by have : q.shift = off := rfl; omega) hj2
                · intro hne
                  have hst1 : st ≠ 1 := by intro e1; subst e1; exact hne rfl
                  obtain ⟨ha1, ha2⟩ := hs' hst1
                  exact ⟨ha1.imp id (fun h0 => by show fr.2 ≤ off + (fz - o); omega), fun h0 => ha2 (hfz0 h0)⟩
                · intro h0
                  cases st <;> cases h0)
              refine ⟨.slice (some ⟨p.blk, off, none⟩) (n + m) c', _, _, ?_, hover.2, hover.1, ?_⟩
              · unfold Builtin.append_
                have hst' : (storeCells (Addr.add ⟨p.blk, off, none⟩ (n * sz)) new'.toList).run P w = .ok () (setRow w p.blk (.cells (wrArr arr (off + n * sz) new'.toList) e fr)) := by
                  rw [add_none]; simpa using hrunS
                simp only [ht0, ht1, List.getElem?_toArray, List.getElem?_cons_zero, List.getElem?_cons_succ, Sem.run_bind, run_underlying hu0, run_underlying hu1, Result.andThen_ok, run_sizeOf hsz, Sem.run_pure, hnz, Bool.false_eq_true, if_false, hlen w rfl,
                  if_pos hroomy, Bool.not_false, if_true, hnew w rfl, hst']
              · exact .sli s.next 0 (n + m) (n + m) c' off q (Rho.with_self _ _ _) (Nat.le_refl _) hroomy (.inl rfl) hlim
            · obtain ⟨hk1, hk2⟩ := h.kill hb
              obtain ⟨v', w', ρ', q1, q2, q3, q4⟩ := hgrow (s.put b .dead) (fz - o) (grownTag st) hk1 (by omega) rfl
              exact ⟨v', w', ρ', q1, hk2.trans q2, q3, q4⟩
      cases hle : Nat.ble (Nat.add n m) c with
      | true =>
        have hnm : n + m ≤ c := Nat.le_of_ble_eq_true hle
        rw [hle] at hr
        simp only at hr
        cases hw : s.wr b (Nat.add o (Nat.mul n sz)) new with
        | no =>
          rw [hw] at hr
          unfold withSlOr at hr
          cases ex with
          | true => cases hr
          | false => exact key (fun h => by cases h) hr
        | ok s1 =>
          rw [hw] at hr
          simp only [withSlOr] at hr
          injection hr with hv hs
          subst hv hs
          obtain ⟨w', hst, hgo, hrel⟩ := h.wr hb hnr hw
          -- where it is written
          have hst' : (storeCells (Addr.add ⟨p.blk, off, none⟩ (n * sz)) new'.toList).run P w = .ok () w' := by
            by_cases hz : m = 0 ∧ n = 0
            · obtain ⟨rfl, rfl⟩ := hz
              have : new'.toList = [] := List.length_eq_zero_iff.1 (by rw [Array.length_toList, hnl', Nat.zero_mul])
              rw [this] at hst ⊢
              exact hst
            · have : off = p.shift + o := by
                rcases hoff with h0 | h0
                · cases ex with
                  | true => exact (hex1 rfl).1
                  | false =>
                    obtain ⟨q1, q2, q3⟩ := hex2 rfl
                    rcases q2 with q2 | q2
                    · exact q2
                    · omega
                · exact h0
              subst this
              rw [add_none]
              simpa only [Nat.add_eq, Nat.mul_eq, Nat.add_assoc] using hst
          refine ⟨.slice (some ⟨p.blk, off, none⟩) (n + m) c', w', ρ, ?_, hgo, hrel, ?_⟩
          · unfold Builtin.append_
            simp only [ht0, ht1, List.getElem?_toArray, List.getElem?_cons_zero, List.getElem?_cons_succ, Sem.run_bind, run_underlying hu0, run_underlying hu1, Result.andThen_ok, run_sizeOf hsz, Sem.run_pure, hnz, Bool.false_eq_true, if_false, hlen w rfl,
              if_pos (show n + m ≤ c' by omega), Bool.not_false, if_true, hnew w rfl, hst']
          · cases ex with
            | true =>
              obtain ⟨rfl, rfl⟩ := hex1 rfl
              exact .slx b o (n + m) c' p hb
            | false =>
              obtain ⟨hnc, ho, hlim⟩ := hex2 rfl
              exact .sli b o (n + m) c c' off p hb hnm hcc ho hlim
      | false =>
        have hnm : c < n + m := by
          rcases Nat.lt_or_ge c (n + m) with hlt | hge
          · exact hlt
          · have : Nat.ble (n + m) c = true := Nat.ble_eq_true_of_le hge
            rw [show Nat.add n m = n + m from rfl, this] at hle; cases hle
        rw [hle] at hr
        exact key (fun _ => hnm) hr

end Go.Eng
end
section
set_option linter.constructorNameAsVariable false
set_option linter.unusedVariables false
set_option linter.unusedSimpArgs false
namespace Go.Eng
variable {P : Program} {γ : Gam}

theorem pick_sim {ρ : Rho} {s s' : St} {w : World} {c a b v : IV} {c' a' b' : Value} (h : Rel P γ ρ s w) (hc : VR ρ γ c c') (ha : VR ρ γ a a') (hb : VR ρ γ b b') (hr : pickB c a b s = .ok v s') :
    Yields P γ ρ s w (do pure (if ← asBool c' then a' else b')) v s' := by
  unfold pickB at hr
  cases c <;> simp only [IV.onBool] at hr <;> (try (cases hr; done))
  rename_i t
  cases hc
  cases t <;> (cases hr; first | exact Yields.same h rfl ha | exact Yields.same h rfl hb)

theorem iface_sim {ρ : Rho} {s : St} {w : World} {t : Nat} {u : TypeDesc} {x : IV} {x' : Value} (h : Rel P γ ρ s w) (hu : undI P t = some u) (hn : notIface u = true) (hx : VR ρ γ x x') :
    Yields P γ ρ s w (Instr.makeInterface t x') (.iface t x) s := by
  refine Yields.same h ?_ (.iface _ _ _ hx)
  unfold Instr.makeInterface
  simp only [Sem.run_bind, run_underlying (undI_eq hu), Result.andThen_ok]
  cases u <;> first | rfl | cases hn


/-- The first so many of what is copied. -/
theorem source_first {ρ : Rho} {s : St} {w : World} {sz m k : Nat} {y : IV} {y' : Value} {new : List IV} (h : Rel P γ ρ s w) (hy : VR ρ γ y y') (hr : sourceOf s sz y = .mk new m) (hk : k ≤ m) :
    ∃ new', (Builtin.firstCells sz k y').run P w = .ok new' w ∧ VRs ρ γ (new.take (k * sz)) new'.toList := by
  unfold sourceOf at hr
  cases y <;> simp only at hr <;> (try (cases hr; done))
  · rename_i l
    split at hr
    · cases hr
      cases hy with
      | str bs _ hl =>
        subst hl
        have hlen : (bs.data.toList.map UInt8.toNat).length = bs.size := by simp
        rw [hlen] at hk
        refine ⟨(bs.extract 0 k).data.map fun b => .int .u8 b.toNat, rfl, ?_⟩
        have hb := bytesI_sim (ρ := ρ) (γ := γ) bs.data.toList
        have e1 : ((bs.extract 0 k).data.map fun b => Value.int .u8 b.toNat).toList = (bs.data.toList.map fun b => Value.int .u8 b.toNat).take k := by
          rw [Array.toList_map, ByteArray.data_extract, Array.toList_extract, List.extract_eq_take_drop, List.drop_zero, Nat.sub_zero, List.map_take]
        rw [e1, Nat.mul_one]
        refine VRs.of_get (by simp [length_bytesI]) fun j v hj => ?_
        rw [List.getElem?_take] at hj
        split at hj <;> (try (cases hj; done))
        rename_i hjk
        obtain ⟨v', h1, h2⟩ := hb.get hj
        exact ⟨v', by rw [List.getElem?_take, if_pos hjk]; exact h1, h2⟩
    · cases hr
  · cases hr
    cases hy
    exact ⟨#[], rfl, by simpa using VRs.nil⟩
  · rename_i b o n c ex
    unfold srcOf at hr
    cases hrd : s.rd b o (n * sz) with
    | none => simp only [Nat.mul_eq] at hr; rw [hrd] at hr; cases hr
    | some l =>
      simp only [Nat.mul_eq] at hr
      rw [hrd] at hr
      simp only at hr
      cases hr
      obtain ⟨p, off, c', hb, rfl, hoff, _⟩ := hy.sl_inv
      obtain ⟨arr, e2, fr, h1, h2, h3⟩ := h.rd hb hrd
      by_cases hz : k = 0
      · subst hz
        refine ⟨#[], ?_, ?_⟩
        · show (loadCells _ (0 * sz)).run P w = _
          rw [Nat.zero_mul]; rfl
        · rw [Nat.zero_mul]; exact .nil
      · have := hoff.resolve_left (by omega)
        subst this
        have hks : k * sz ≤ m * sz := Nat.mul_le_mul_right _ hk
        refine ⟨_, run_loadCells h1 (by omega), ?_⟩
        have hl3 := h3.length
        refine VRs.of_get ?_ fun j v hj => ?_
        · simp at hl3 ⊢; omega
        · rw [List.getElem?_take] at hj
          split at hj <;> (try (cases hj; done))
          rename_i hjk
          obtain ⟨v', q1, q2⟩ := h3.get hj
          refine ⟨v', ?_, q2⟩
          rw [Array.getElem?_toList, Array.getElem?_extract] at q1 ⊢
          rw [if_pos (by omega)] at q1
          rw [if_pos (by omega)]
          exact q1

theorem copy_sim {ρ : Rho} {s s' : St} {w : World} {ts : Array TypeId} {rt : TypeId} {e sz : Nat} {x y v : IV} {x' y' : Value} (h : Rel P γ ρ s w) (he : elemSz P ts = some (e, sz))
    (hx : VR ρ γ x x') (hy : VR ρ γ y y') (hr : doCopy sz s x y = .ok v s') : Yields P γ ρ s w (Builtin.copy_ ts rt #[x', y']) v s' := by
  obtain ⟨t0, ht0, hu0, hsz, hsz0⟩ := elemSz_eq he
  unfold doCopy at hr
  cases hsrc : sourceOf s sz y with
  | no => rw [hsrc] at hr; cases hr
  | mk new m =>
    rw [hsrc] at hr
    simp only at hr
    obtain ⟨hnl, hlen, _⟩ := source_sim h hy hsrc
    unfold copyTo at hr
    cases x <;> simp only at hr <;> (try (cases hr; done))
    · cases hx; cases hr
      obtain ⟨new', q1, q2⟩ := source_first (k := 0) h hy hsrc (Nat.zero_le _)
      refine Yields.same h ?_ (.int _ _)
      unfold Builtin.copy_
      simp only [ht0, List.getElem?_toArray, List.getElem?_cons_zero, List.getElem?_cons_succ, Sem.run_bind, run_underlying hu0, Result.andThen_ok, hlen w rfl, run_sizeOf hsz, show Nat.min m 0 = 0 from Nat.min_zero _, q1, Sem.run_pure]
      rfl
    · rename_i b o n c ex
      obtain ⟨p, off, c', hb, rfl, hoff, _⟩ := hx.sl_inv
      obtain ⟨new', q1, q2⟩ := source_first (k := min m n) h hy hsrc (Nat.min_le_left _ _)
      split at hr <;> (try (cases hr; done))
      rename_i l hl
      obtain ⟨hl1, rfl⟩ := takeN_eq hl
      cases hw : s.wr b o (new.take (min m n * sz)) with
      | no => rw [hw] at hr; cases hr
      | ok s1 =>
        rw [hw] at hr
        simp only [withSl] at hr
        injection hr with hv hs
        subst hv hs
        obtain ⟨w', hst, hgo, hrel⟩ := h.wr hb q2 hw
        have hst' : (storeCells ⟨p.blk, off, none⟩ new'.toList).run P w = .ok () w' := by
          by_cases hz : n = 0
          · have : new'.toList = [] := by
              have := q2.length
              rw [hz, Nat.min_zero, Nat.zero_mul, List.take_zero] at this
              exact List.length_eq_zero_iff.1 this.symm
            rw [this] at hst ⊢
            exact hst
          · rw [hoff.resolve_left hz]; exact hst
        refine ⟨_, w', ρ, ?_, hgo, hrel, .int _ _⟩
        unfold Builtin.copy_
        simp only [ht0, List.getElem?_toArray, List.getElem?_cons_zero, List.getElem?_cons_succ, Sem.run_bind, run_underlying hu0, Result.andThen_ok, hlen w rfl, run_sizeOf hsz, show Nat.min m n = min m n from rfl, q1, hst', Sem.run_pure]
        rfl

theorem clear_sim {ρ : Rho} {s s' : St} {w : World} {ts : Array TypeId} {rt : TypeId} {e : Nat} {z x v : IV} {x' : Value} (h : Rel P γ ρ s w) (ht : argT P ts 0 = some (.slice e)) (hz : zero P e = some z)
    (hx : VR ρ γ x x') (hr : doClear z.cells s x = .ok v s') : Yields P γ ρ s w (Builtin.clear_ ts rt #[x']) v s' := by
  obtain ⟨t, ht1, ht2⟩ := argT_eq ht
  obtain ⟨zv, hz1, hz2⟩ := zero_rel (P := P) (ρ := ρ) (γ := γ) hz
  unfold doClear at hr
  cases x <;> simp only at hr <;> (try (cases hr; done))
  · cases hx; cases hr
    refine Yields.same h ?_ (.tup [] #[] .nil)
    unfold Builtin.clear_
    simp only [ht1, List.getElem?_toArray, List.getElem?_cons_zero, Sem.run_bind, run_underlying ht2, Result.andThen_ok, Sem.run_pure]
  · rename_i b o n c ex
    obtain ⟨p, off, c', hb, rfl, hoff, _⟩ := hx.sl_inv
    cases hw : s.wr b o (rep n z.cells) with
    | no => rw [hw] at hr; cases hr
    | ok s1 =>
      rw [hw] at hr
      change R.ok undefI s1 = _ at hr
      injection hr with hv hs
      subst hv hs
      have hzr : VRs ρ γ (rep n z.cells) (Builtin.zeroCells zv.cells n).toList := rep_sim hz2.cells rfl
      obtain ⟨w', hst, hgo, hrel⟩ := h.wr hb hzr hw
      refine ⟨_, w', ρ, ?_, hgo, hrel, .tup [] #[] .nil⟩
      unfold Builtin.clear_
      simp only [ht1, List.getElem?_toArray, List.getElem?_cons_zero, Sem.run_bind, run_underlying ht2, Result.andThen_ok]
      cases n with
      | zero =>
        have : (Builtin.zeroCells zv.cells 0).toList = [] := by simp [Builtin.zeroCells]
        rw [this] at hst
        cases hst
        rfl
      | succ n =>
        have := hoff.resolve_left (by omega)
        subst this
        simp only [Sem.run_bind, hz1 w, Result.andThen_ok, hst, Sem.run_pure]

theorem run_asInt (k : IntKind) (n : Int) (w : World) : (asInt (.int k n)).run P w = .ok n w := rfl

theorem lies_bytes {e off n size : Nat} (hs : Go.Eng.size P e = some 1) (hn : off + n ≤ size) : liesAt P P.depth e (size / P.cellsOf e) off e n = true := by
  have hc := cellsOf_eq hs
  obtain ⟨d, hd⟩ := depth_succ P
  rw [hd]
  unfold liesAt
  rw [hd]
  unfold rowAt
  have hsame : sameLayout P (d + 1) e e = true := by unfold sameLayout; simp
  simp [hc, hn, hsame, Nat.mod_one]

theorem unsafeString_some (ts : Array TypeId) (ty : TypeId) (a : Addr) (y : Value) : Builtin.unsafeString_ ts ty #[.pointer (some a), y] =
    (do
      let n ← asInt y
      let some pt := ts[0]? | stuck "unsafe.String: no argument types"
      if n < 0 then runtimePanic (.error "unsafe.String: len out of range")
      if n > IntKind.i64.max then unsupported (.unsafePointer "String: a length above the largest int")
      if n = 0 then pure (.string .empty)
      else if ← variablesAt a (← elemOf pt) n.toNat then do
        let s ← loadBytes a .empty n.toNat
        freeze a n.toNat
        pure (.string s)
      else unsupported (.unsafePointer "String: not so many bytes at ptr")) := rfl
theorem unsafeString_nil (ts : Array TypeId) (ty : TypeId) (y : Value) : Builtin.unsafeString_ ts ty #[.pointer none, y] =
    (do
      let n ← asInt y
      let some pt := ts[0]? | stuck "unsafe.String: no argument types"
      if n < 0 then runtimePanic (.error "unsafe.String: len out of range")
      if n > IntKind.i64.max then unsupported (.unsafePointer "String: a length above the largest int")
      if n = 0 then pure (.string .empty)
      else runtimePanic (.error "unsafe.String: ptr is nil and len is not zero")) := rfl

theorem string_sim {ρ : Rho} {s s' : St} {w : World} {ts : Array TypeId} {rt : TypeId} {e : Nat} {x y v : IV} {x' y' : Value} (h : Rel P γ ρ s w) (he : ptrElem P ts = some e)
    (hx : VR ρ γ x x') (hy : VR ρ γ y y') (hr : doString e x y s = .ok v s') : Yields P γ ρ s w (Builtin.unsafeString_ ts rt #[x', y']) v s' := by
  unfold ptrElem at he
  split at he <;> (try (cases he; done))
  rename_i e1 harg
  split at he <;> (try (cases he; done))
  rename_i hb
  cases he
  obtain ⟨t, ht1, ht2⟩ := argT_eq harg
  obtain ⟨hu, hsz⟩ := isByte_eq hb
  unfold doString at hr
  cases hn : y.nat with
  | none => rw [hn] at hr; cases hr
  | some n =>
    rw [hn] at hr
    obtain ⟨k, rfl⟩ := nat_inv hy hn
    simp only at hr
    have hneg : ¬ (Int.ofNat n < 0) := Int.not_lt.2 (Int.natCast_nonneg n)
    cases n with
    | zero =>
      simp only at hr
      cases x <;> simp only at hr <;> (try (cases hr; done))
      · cases hx; cases hr
        refine Yields.same h ?_ (.str .empty [] rfl)
        rw [unsafeString_nil]
        simp only [Sem.run_bind, run_asInt, ht1, Result.andThen_ok]
        rfl
      · cases hx; cases hr
        refine Yields.same h ?_ (.str .empty [] rfl)
        rw [unsafeString_some]
        simp only [Sem.run_bind, run_asInt, ht1, Result.andThen_ok]
        rfl
    | succ n =>
      simp only at hr
      cases x <;> simp only at hr <;> (try (cases hr; done))
      rename_i b o
      cases hx
      rename_i p hb'
      unfold freezeIn at hr
      split at hr <;> (try (cases hr; done))
      rename_i c len e' fz tag hg
      split at hr <;> (try (cases hr; done))
      rename_i htag
      split at hr <;> (try (cases hr; done))
      rename_i hc
      simp only [Bool.and_eq_true] at hc
      obtain ⟨⟨hc1, hc2⟩, hc3⟩ := hc
      have he' := Nat.eq_of_beq_eq_true hc1
      subst he'
      have hlen : o + (n + 1) ≤ len := Nat.le_of_ble_eq_true hc2
      have htop : n + 1 ≤ top64 := Nat.le_of_ble_eq_true hc3
      split at hr <;> (try (cases hr; done))
      rename_i r hbs
      injection hr with hv hs
      subst hv hs
      obtain ⟨arr, fr, h1, h2⟩ := h.row hb' hg
      have hbig : ¬ (Int.ofNat (n + 1) > IntKind.i64.max) := by
        have : IntKind.i64.max = Int.ofNat top64 := by decide
        rw [this]
        exact Int.not_lt.2 (Int.ofNat_le.2 htop)
      have hne0 : Int.ofNat (n + 1) ≠ 0 := fun h => absurd (Int.ofNat.inj (h : Int.ofNat (n + 1) = Int.ofNat 0)) (Nat.succ_ne_zero n)
      have htoN : (Int.ofNat (n + 1)).toNat = n + 1 := rfl
      cases h2 with
      | cells _ _ _ _ _ _ _ hl' ha hcs hf hst htg hz =>
        have hrd : VRs ρ γ (rdC c (n + 1) o) (arr.extract (p.shift + o) (p.shift + o + (n + 1))).toList := by
          have hsz1 : p.shift + o + (n + 1) ≤ arr.size := by omega
          have hsz2 : (rdC c (n + 1) o).length = (arr.extract (p.shift + o) (p.shift + o + (n + 1))).toList.length := by
            rw [length_rdC, Array.length_toList, Array.size_extract]; omega
          refine VRs.of_get hsz2 ?_
          intro k v hk
          have hk' : k < n + 1 := by have := (List.getElem?_eq_some_iff.1 hk).1; rwa [length_rdC] at this
          rw [get_rdC c _ _ _ hk'] at hk
          cases hk
          obtain ⟨v', q1, q2⟩ := hcs (o + k) (by omega)
          refine ⟨v', ?_, q2⟩
          rw [Array.getElem?_toList, Array.getElem?_extract, if_pos (by omega), Nat.add_assoc]
          exact q1
        obtain ⟨q1, q2⟩ := bytesOfI_sim hrd hbs
        have hrl : r.length = n + 1 := by
          have := hrd.length; rw [length_rdC] at this; rw [this, q1]; simp
        let bs : List UInt8 := r.map UInt8.ofNat
        have hbl : bs.length = n + 1 := by simp [bs, hrl]
        have hbn : bs.map UInt8.toNat = r := by
          show (r.map UInt8.ofNat).map UInt8.toNat = r
          rw [List.map_map]
          conv => rhs; rw [← List.map_id r]
          exact List.map_congr_left fun c hc => toNat_ofNat (q2 c hc)
        have hload : (loadBytes ⟨p.blk, p.shift + o, none⟩ .empty (n + 1)).run P w = .ok ⟨(ByteArray.empty).data ++ bs.toArray⟩ w := by
          have := Lib.run_loadBytes (P := P) w bs ⟨p.blk, p.shift + o, none⟩ .empty (by
            intro j x hj
            have hj' : j < bs.length := (List.getElem?_eq_some_iff.1 hj).1
            have e1 : ((⟨p.blk, p.shift + o, none⟩ : Addr).add j) = ⟨p.blk, p.shift + o + j, none⟩ := add_none ..
            rw [e1]
            have e2 : (arr.extract (p.shift + o) (p.shift + o + (n + 1))).toList[j]? = some (.int .u8 x.toNat) := by
              rw [q1, ← hbn, List.map_map, List.getElem?_map, hj]; rfl
            rw [Array.getElem?_toList, Array.getElem?_extract, if_pos (by omega)] at e2
            unfold World.cell?
            simp only [h1]
            exact e2)
          rw [hbl] at this
          exact this
        have hput := h.put (x := .cells c len e (max fz (o + (n + 1))) tag) (o := .cells arr e (if fr.1 == fr.2 then (p.shift + o, p.shift + o + (n + 1)) else (min fr.1 (p.shift + o), max fr.2 (p.shift + o + (n + 1))))) hb' (by rw [hg]; exact fun h => h) (by
          have htag' : tag ≠ 1 := by intro e; subst e; cases htag
          obtain ⟨hs1, hs2⟩ := hst htag'
          refine .cells _ _ _ _ _ _ _ hl' ha hcs ?_ ?_ htg hz
          · intro j hj1 hj2
            split
            · simp only; omega
            · rename_i hfr
              have : fr.1 ≠ fr.2 := by simpa using hfr
              rcases hs1 with hs1 | hs1
              · exact absurd hs1 this
              · simp only; omega
          · intro _
            refine ⟨.inr ?_, fun h0 => by omega⟩
            split
            · simp only; omega
            · rename_i hfr
              have : fr.1 ≠ fr.2 := by simpa using hfr
              rcases hs1 with hs1 | hs1
              · exact absurd hs1 this
              · simp only; omega)
        refine ⟨_, _, ρ, ?_, hput.2, hput.1, .str ⟨(ByteArray.empty).data ++ bs.toArray⟩ r (by show ((ByteArray.empty).data ++ bs.toArray).toList.map UInt8.toNat = r; simpa using hbn)⟩
        rw [unsafeString_some]
        have helem : (elemOf t).run P w = .ok e w := by
          unfold elemOf; simp only [Sem.run_bind, run_underlying ht2, Result.andThen_ok, Sem.run_pure]
        have hvar : (variablesAt ⟨p.blk, p.shift + o, none⟩ e (n + 1)).run P w = .ok true w := by
          unfold variablesAt
          simp only [Sem.run_bind, run_program, run_shape, shape_eq h1, Result.andThen_ok, Sem.run_pure, lies_bytes hsz (show p.shift + o + (n + 1) ≤ arr.size by omega)]
        simp only [Sem.run_bind, run_asInt, ht1, Result.andThen_ok, Sem.run_pure, List.getElem?_toArray, List.getElem?_cons_zero, if_neg hneg, if_neg hbig, if_neg hne0, helem, htoN, hvar, if_true, hload, run_freeze, freeze_eq h1 (by omega : n + 1 ≠ 0)]
end Go.Eng
end
section
set_option linter.constructorNameAsVariable false
set_option linter.unusedVariables false
set_option linter.unusedSimpArgs false
namespace Go.Eng
variable {P : Program} {γ : Gam}

theorem val_ok' {s s' : St} {o : Option IV} {v : IV} (h : R.val s o = .ok v s') : o = some v ∧ s' = s := by
  cases o with
  | none => cases h
  | some x => cases h; exact ⟨rfl, rfl⟩
theorem bytes_beq' (a b : ByteArray) : (a == b) = true ↔ a = b := by
  obtain ⟨x⟩ := a
  obtain ⟨y⟩ := b
  constructor
  · intro h
    have e : x = y := by simpa using (show (x == y) = true from h)
    rw [e]
  · intro h
    cases h
    show (x == x) = true
    simp
theorem sameB'_eq (a b : Bool) : sameB' a b = true ↔ a = b := by cases a <;> cases b <;> decide

theorem scal_sim {ρ : Rho} {x y : IV} {x' y' : Value} (n : Nat) (hx : VR ρ γ x x') (hy : VR ρ γ y y') (h : scal x y = true) : Instr.sameBits n x' y' = true := by
  unfold scal at h
  cases hx <;> simp only at h <;> (try (cases h; done)) <;> cases hy <;> simp only at h <;> (try (cases h; done))
  · have := (sameB'_eq _ _).1 h
    subst this
    unfold Instr.sameBits; simp
  · split at h <;> (try (cases h; done))
    rename_i hk
    have := (kindEq_iff _ _).1 hk
    subst this
    rw [eqI_eq] at h
    have := eq_of_beq h
    subst this
    unfold Instr.sameBits; simp
  · rename_i a l ha b m hb
    have hl := (listEq_iff _ _).1 h
    subst hl
    have : a = b := by
      have := toNats_inj (ha.trans hb.symm)
      exact ByteArray.ext (Array.toList_inj.1 this)
    subst this
    cases n <;> (unfold Instr.sameBits; exact (bytes_beq' _ _).2 rfl)

theorem scals_sim {ρ : Rho} (n : Nat) : ∀ {x y : List IV} {x' y' : List Value}, VRs ρ γ x x' → VRs ρ γ y y' → scals x y = true → x'.length = y'.length ∧ ((x'.zip y').all fun (a, b) => Instr.sameBits n a b) = true
  | [], [], _, _, hx, hy, h => by cases hx; cases hy; exact ⟨rfl, rfl⟩
  | [], _ :: _, _, _, hx, hy, h => by cases h
  | _ :: _, [], _, _, hx, hy, h => by cases h
  | a :: x, b :: y, _, _, hx, hy, h => by
    cases hx with
    | cons _ a' _ x' ha hx =>
      cases hy with
      | cons _ b' _ y' hb hy =>
        unfold scals at h
        simp only at h
        split at h <;> (try (cases h; done))
        rename_i hs
        obtain ⟨h1, h2⟩ := scals_sim n hx hy h
        refine ⟨by simp [h1], ?_⟩
        simp only [List.zip_cons_cons, List.all_cons, h2, Bool.and_true]
        exact scal_sim n ha hb hs

theorem sameK_sim {ρ : Rho} {x y : IV} {x' y' : Value} (n : Nat) (hx : VR ρ γ x x') (hy : VR ρ γ y y') (h : sameK x y = true) : Instr.sameBits (n + 1) x' y' = true := by
  unfold sameK at h
  split at h
  · rename_i l
    split at h <;> (try (cases h; done))
    rename_i m
    cases hx with
    | agg _ a ha =>
      cases hy with
      | agg _ b hb =>
        obtain ⟨h1, h2⟩ := scals_sim n ha hb h
        unfold Instr.sameBits
        simp only [Bool.and_eq_true]
        exact ⟨by simpa using h1, h2⟩
  · exact scal_sim _ hx hy h

/-- Keys held against one another. -/
theorem scalCmp_sim {ρ : Rho} {x y : IV} {x' y' : Value} {b : Bool} {u : TypeDesc} (hx : VR ρ γ x x') (hy : VR ρ γ y y') (h : scalCmp x y = some b)
    (hu : (∃ k, u = .int k) ∧ (∃ k n, x = .int k n) ∨ u = .string ∧ (∃ l, x = .str l)) : Instr.sameNow u x' y' = some b := by
  unfold scalCmp at h
  rcases hu with ⟨⟨k0, rfl⟩, k, n, rfl⟩ | ⟨rfl, l, rfl⟩
  · simp only at h
    cases hx
    cases hy <;> simp only at h <;> (try (cases h; done))
    split at h <;> (try (cases h; done))
    rename_i hk
    have := (kindEq_iff _ _).1 hk
    subst this
    cases h
    unfold Instr.sameNow
    simp [eqI_eq]
  · simp only at h
    cases hx with
    | str a _ ha =>
      cases hy <;> simp only at h <;> (try (cases h; done))
      rename_i c m hc
      cases h
      unfold Instr.sameNow
      subst ha hc
      show some (a == c) = _
      rw [listEq_bytes]
      congr 1
      rw [Bool.eq_iff_iff]
      simp only [beq_iff_eq, toList_data]
      constructor
      · intro e; rw [(bytes_beq' _ _).1 e]
      · intro e; exact (bytes_beq' _ _).2 (ByteArray.ext (Array.toList_inj.1 e))

/-- What was found, here and there. -/
def FR (ρ : Rho) (γ : Gam) (l : List MapEntry) (i : Nat) (k' : Value) : Option (Nat × IV × Nat) → Option (Nat × Value) → Prop
  | none, none => True
  | some (j, v, st), some (j', v') => j' = j ∧ i ≤ j ∧ ∃ e, l[j - i]? = some e ∧ VR ρ γ v e.val ∧ v' = e.val ∧ st = e.born ∧ Instr.sameBits 10000 e.key k' = true
  | _, _ => False

theorem FR.tail {ρ : Rho} {e : MapEntry} {l : List MapEntry} {i : Nat} {k' : Value} {r : Option (Nat × IV × Nat)} {r' : Option (Nat × Value)} (h : FR ρ γ l (i + 1) k' r r') : FR ρ γ (e :: l) i k' r r' := by
  cases r with
  | none => cases r' <;> exact h
  | some r => cases r' with
    | none => exact h
    | some r' =>
      obtain ⟨j, v, st⟩ := r
      obtain ⟨j', v'⟩ := r'
      obtain ⟨h1, h2, e1, h3, h4⟩ := h
      refine ⟨h1, by omega, e1, ?_, h4⟩
      rw [show j - i = (j - (i + 1)) + 1 by omega, List.getElem?_cons_succ]
      exact h3

theorem find_now {ρ : Rho} {k : IV} {k' : Value} {u : TypeDesc} {f : IV → Option Bool} (hk : VR ρ γ k k') (hf : ∀ y y' b, VR ρ γ y y' → f y = some b → Instr.sameNow u k' y' = some b) :
    ∀ {es : List (IV × IV × Nat)} {l : List MapEntry} {i : Nat} {r : Option (Nat × IV × Nat)}, EntR ρ γ es l → findKey f k es i = some r → ∃ r', Instr.findNow u k' l i = some r' ∧ FR ρ γ l i k' r r'
  | [], _, i, r, he, h => by
    cases he
    simp only [findKey] at h
    cases h
    exact ⟨none, rfl, trivial⟩
  | _ :: es, _, i, r, he, h => by
    cases he with
    | cons k1 v1 e _ l hk1 hv1 he =>
      unfold findKey at h
      cases hc : f k1 with
      | none => rw [hc] at h; cases h
      | some b =>
        rw [hc] at h
        simp only at h
        have hs := hf k1 e.key b hk1 hc
        unfold Instr.findNow
        rw [hs]
        cases b with
        | true =>
          simp only at h ⊢
          split at h <;> (try (cases h; done))
          rename_i hsame
          cases h
          exact ⟨_, rfl, rfl, Nat.le_refl _, e, by rw [Nat.sub_self]; rfl, hv1, rfl, rfl, sameK_sim _ hk1 hk hsame⟩
        | false =>
          simp only at h ⊢
          obtain ⟨r', h1, h2⟩ := find_now hk hf he h
          exact ⟨r', h1, h2.tail⟩

theorem find_ask {ρ : Rho} {kt : Nat} {k : IV} {k' : Value} {w : World} {f : IV → Option Bool} (hk : VR ρ γ k k') (hf : ∀ y y' b, VR ρ γ y y' → f y = some b → (Op.equal kt k' y').run P w = .ok b w) :
    ∀ {es : List (IV × IV × Nat)} {l : List MapEntry} {i : Nat} {r : Option (Nat × IV × Nat)}, EntR ρ γ es l → findKey f k es i = some r → ∃ r', (Instr.findAsking kt k' l i).run P w = .ok r' w ∧ FR ρ γ l i k' r r'
  | [], _, i, r, he, h => by
    cases he
    simp only [findKey] at h
    cases h
    exact ⟨none, rfl, trivial⟩
  | _ :: es, _, i, r, he, h => by
    cases he with
    | cons k1 v1 e _ l hk1 hv1 he =>
      unfold findKey at h
      cases hc : f k1 with
      | none => rw [hc] at h; cases h
      | some b =>
        rw [hc] at h
        simp only at h
        have hs := hf k1 e.key b hk1 hc
        unfold Instr.findAsking
        simp only [Sem.run_bind, hs, Result.andThen_ok]
        cases b with
        | true =>
          simp only at h
          split at h <;> (try (cases h; done))
          rename_i hsame
          cases h
          exact ⟨_, rfl, rfl, Nat.le_refl _, e, by rw [Nat.sub_self]; rfl, hv1, rfl, rfl, sameK_sim _ hk1 hk hsame⟩
        | false =>
          simp only at h
          obtain ⟨r', h1, h2⟩ := find_ask hk hf he h
          exact ⟨r', h1, h2.tail⟩

theorem scalT_inv {t : Nat} (h : scalT P t = true) : ∃ u, undI P t = some u ∧ ((∃ k, u = .int k) ∨ u = .string ∨ u = .bool) := by
  unfold scalT at h
  split at h
  · rename_i k hu; exact ⟨_, hu, .inl ⟨k, rfl⟩⟩
  · rename_i hu; exact ⟨_, hu, .inr (.inl rfl)⟩
  · rename_i hu; exact ⟨_, hu, .inr (.inr rfl)⟩
  · cases h

theorem checkKey_scal {u : TypeDesc} {t n : Nat} {e : Bool} {v : Value} {w : World} (hu : undI P t = some u) (hs : (∃ k, u = .int k) ∨ u = .string ∨ u = .bool) : (Instr.checkKey e (n + 1) t v).run P w = .ok () w := by
  unfold Instr.checkKey
  simp only [Sem.run_bind, run_underlying (undI_eq hu), Result.andThen_ok]
  rcases hs with ⟨k, rfl⟩ | rfl | rfl <;> rfl

theorem checkKey_fields {ρ : Rho} {l : List IV} {a : Array Value} {e : Bool} {n : Nat} {w : World} (hl : VRs ρ γ l a.toList) : ∀ {fs : List Field}, fieldsFine P l fs = true →
    (forIn fs PUnit.unit fun f _ => do
      if f.name ≠ "_" then Instr.checkKey e (n + 1) f.type (← Go.part f.type a f.offset)
      pure (ForInStep.yield PUnit.unit) : Sem PUnit).run P w = .ok PUnit.unit w
  | [], _ => rfl
  | f :: fs, h => by
    unfold fieldsFine at h
    split at h <;> (try (cases h; done))
    rename_i hs
    split at h <;> (try (cases h; done))
    rename_i v hv
    have ih := checkKey_fields (e := e) (n := n) (w := w) hl h
    rw [List.forIn_cons]
    obtain ⟨u, hu, hsc⟩ := scalT_inv hs
    obtain ⟨v', h1, h2⟩ := part_sim (P := P) (w := w) hl hv
    by_cases hn : f.name = "_"
    · simp only [ne_eq, hn, not_true_eq_false, if_false, bind_assoc, Sem.run_bind, Sem.run_pure, Result.andThen_ok]
      simpa using ih
    · simp only [ne_eq, hn, not_false_eq_true, if_true, Sem.run_bind, h1, Result.andThen_ok, checkKey_scal hu hsc, Sem.run_pure]
      simpa using ih

/-- A key that may be one, and how it is found. -/
theorem find_sim {ρ : Rho} {s : St} {kt : Nat} {k : IV} {k' : Value} {w : World} {es : List (IV × IV × Nat)} {l : List MapEntry} {r : Option (Nat × IV × Nat)} (hr : Rel P γ ρ s w) (hk : VR ρ γ k k') (he : EntR ρ γ es l) (h : findI P kt k es = some r) :
    (∀ e, (Instr.checkKey e 10000 kt k').run P w = .ok () w) ∧ ∃ r', (Instr.findKey kt k' l).run P w = .ok r' w ∧ FR ρ γ l 0 k' r r' := by
  unfold findI at h
  split at h <;> (try (cases h; done))
  rename_i f hf
  unfold cmpT at hf
  cases hu : undI P kt with
  | none => rw [hu] at hf; cases hf
  | some u =>
    rw [hu] at hf
    have hru := run_underlying (undI_eq hu) w
    cases u <;> simp only at hf <;> (try (cases hf; done))
    · rename_i k0
      split at hf <;> (try (cases hf; done))
      rename_i kk n
      cases hf
      refine ⟨fun e => checkKey_scal hu (.inl ⟨_, rfl⟩), ?_⟩
      obtain ⟨r', h1, h2⟩ := find_now (u := .int k0) hk (fun y y' b hy hb => scalCmp_sim hk hy hb (.inl ⟨⟨_, rfl⟩, _, _, rfl⟩)) he h
      refine ⟨r', ?_, h2⟩
      unfold Instr.findKey
      simp only [Sem.run_bind, hru, Result.andThen_ok, h1, Sem.run_pure]
    · split at hf <;> (try (cases hf; done))
      rename_i ll
      cases hf
      refine ⟨fun e => checkKey_scal hu (.inr (.inl rfl)), ?_⟩
      obtain ⟨r', h1, h2⟩ := find_now (u := .string) hk (fun y y' b hy hb => scalCmp_sim hk hy hb (.inr ⟨rfl, _, rfl⟩)) he h
      refine ⟨r', ?_, h2⟩
      unfold Instr.findKey
      simp only [Sem.run_bind, hru, Result.andThen_ok, h1, Sem.run_pure]
    · rename_i fs
      split at hf <;> (try (cases hf; done))
      rename_i ll
      split at hf <;> (try (cases hf; done))
      rename_i hfine
      cases hf
      cases hk with
      | agg _ a ha =>
        refine ⟨fun e => ?_, ?_⟩
        · unfold Instr.checkKey
          simp only [Sem.run_bind, hru, Result.andThen_ok]
          have := checkKey_fields (e := e) (n := 9998) (w := w) ha hfine
          rw [← Array.forIn_toList]
          simp at this ⊢
          rw [this]
          rfl
        · obtain ⟨r', h1, h2⟩ := find_ask (kt := kt) (w := w) (VR.agg _ a ha) (fun y y' b hy hb => eqv_sim hr 10000 (VR.agg _ a ha) hy hb) he h
          unfold Instr.findKey
          simp only [Sem.run_bind, hru, Result.andThen_ok]
          cases l with
          | nil =>
            cases he
            simp only [findKey] at h
            cases h
            exact ⟨none, rfl, trivial⟩
          | cons e1 l =>
            refine ⟨r', ?_, h2⟩
            have : Instr.findNow (.struct fs) (.agg a) (e1 :: l) 0 = none := by unfold Instr.findNow Instr.sameNow; rfl
            rw [this]
            exact h1

theorem EntR.length {ρ : Rho} {es : List (IV × IV × Nat)} {l : List MapEntry} (h : EntR ρ γ es l) : es.length = l.length := by
  induction h with
  | nil => rfl
  | cons k v e es es' hk hv h ih => simp [ih]
theorem EntR.snoc {ρ : Rho} {es : List (IV × IV × Nat)} {l : List MapEntry} (h : EntR ρ γ es l) {k v : IV} {e : MapEntry} (hk : VR ρ γ k e.key) (hv : VR ρ γ v e.val) : EntR ρ γ (es ++ [(k, v, e.born)]) (l ++ [e]) := by
  induction h with
  | nil => exact .cons _ _ e _ _ hk hv .nil
  | cons k v e es es' hk hv h ih => exact .cons _ _ _ _ _ hk hv ih
theorem EntR.setAt {ρ : Rho} : ∀ {es : List (IV × IV × Nat)} {l : List MapEntry} (h : EntR ρ γ es l) (i : Nat) {k v : IV} {e e' : MapEntry} (hi : l[i]? = some e) (hb : e'.born = e.born) (hk : VR ρ γ k e'.key) (hv : VR ρ γ v e'.val),
    EntR ρ γ (Eng.setAt es i (k, v, e.born)) (l.set i e')
  | _, _, .nil, i, k, v, e, e', hi, hb, hk, hv => by cases hi
  | _, _, .cons k1 v1 e1 es l h1 h2 h, i, k, v, e, e', hi, hb, hk, hv => by
    cases i with
    | zero =>
      simp only [List.getElem?_cons_zero, Option.some.injEq] at hi
      subst hi
      rw [← hb]
      exact .cons k v e' es l hk hv h
    | succ i =>
      rw [List.getElem?_cons_succ] at hi
      exact .cons k1 v1 e1 _ _ h1 h2 (EntR.setAt h i hi hb hk hv)
theorem modify_eq (a : Array MapEntry) (i : Nat) (f : MapEntry → MapEntry) (e : MapEntry) (h : a.toList[i]? = some e) : (a.modify i f).toList = a.toList.set i (f e) := by
  rw [Array.toList_modify]
  apply List.ext_getElem?
  intro j
  rw [List.getElem?_modify, List.getElem?_set]
  by_cases hij : i = j
  · subst hij
    have : i < a.toList.length := by
      rw [List.getElem?_eq_some_iff] at h; exact h.1
    simp [h, this]
    simpa using this
  · simp [hij]
theorem keyStays {old new : Value} {w : World} (h : Instr.sameBits 10000 old new = true) : (Instr.keyThatStays old new).run P w = .ok new w := by
  unfold Instr.keyThatStays
  rw [if_pos h]
  rfl

/-- A map's row. -/
theorem Rel.mapRow {ρ : Rho} {s : St} {w : World} (h : Rel P γ ρ s w) {b : Nat} {p : Pl} (hb : ρ b = some p) {es : List (IV × IV × Nat)} {cl : Nat} (hg : s.get b = .map es cl) :
    ∃ l : Array MapEntry, w.heap[p.blk]? = some (.map l cl) ∧ EntR ρ γ es l.toList := by
  obtain ⟨o, h1, h2⟩ := h.live b p hb (by rw [hg]; exact fun h => h)
  rw [hg] at h2
  cases h2 with
  | map _ _ l hl => exact ⟨l, h1, hl⟩

theorem mapT_inv {t : Nat} {kt e : Nat} (h : mapT P t = some (kt, e)) : undI P t = some (.map kt e) := by
  unfold mapT at h
  split at h
  · cases h; assumption
  · cases h

/-- What a lookup makes of what was found. -/
def outM (e : TypeId) : Option (Nat × Value) → Sem (Value × Bool)
  | some (_, v) => pure (v, true)
  | none => do pure (← zeroValue e, false)
theorem lookV_sim {ρ : Rho} {s s' : St} {w : World} {t kt e : Nat} {ok : Bool} {m k v : IV} {m' k' : Value} (h : Rel P γ ρ s w) (ht : mapT P t = some (kt, e)) (hm : VR ρ γ m m') (hk : VR ρ γ k k') (hr : lookV P kt e ok m k s = .ok v s') :
    Yields P γ ρ s w (Instr.lookup t m' k' ok) v s' := by
  unfold lookV at hr
  cases he : entriesOf s m with
  | none => rw [he] at hr; cases hr
  | some es =>
    rw [he] at hr
    obtain ⟨h1, rfl⟩ := val_ok' hr
    have hl : ∃ l : Array MapEntry, EntR ρ γ es l.toList ∧ ∀ (q : Value × Bool), ((∀ e, (Instr.checkKey e 10000 kt k').run P w = .ok () w)) → (∃ r', (Instr.findKey kt k' l.toList).run P w = .ok r' w ∧ ((outM e r').run P w = .ok q w)) → (Instr.lookup t m' k' ok).run P w = .ok (if ok then .tuple #[q.1, .bool q.2] else q.1) w := by
      unfold entriesOf at he
      cases hm <;> simp only at he <;> (try (cases he; done))
      · cases he
        refine ⟨#[], .nil, ?_⟩
        rintro q c1 ⟨r', c2, hq⟩
        unfold Instr.lookup
        simp only [Sem.run_bind, run_underlying (undI_eq (mapT_inv ht)), Result.andThen_ok, c1, c2, Sem.run_pure]
        cases r' with
        | none =>
          simp only [outM, Sem.run_bind] at hq ⊢
          cases hz : (zeroValue e).run P w <;> rw [hz] at hq <;> simp only [Result.andThen_ok, Sem.run_pure] at hq ⊢ <;> (cases hq)
          rfl
        | some r' => simp only [outM, Sem.run_bind, Sem.run_pure, Result.andThen_ok] at hq ⊢; cases hq; rfl
      · rename_i b p hb
        split at he <;> (try (cases he; done))
        rename_i es1 cl hg
        cases he
        obtain ⟨l, q1, q2⟩ := h.mapRow hb hg
        refine ⟨l, q2, ?_⟩
        rintro q c1 ⟨r', c2, hq⟩
        unfold Instr.lookup
        simp only [Sem.run_bind, run_underlying (undI_eq (mapT_inv ht)), run_getObj q1 (by intro _ _ _ h; cases h), Result.andThen_ok, c1, c2, Sem.run_pure]
        cases r' with
        | none =>
          simp only [outM, Sem.run_bind] at hq ⊢
          cases hz : (zeroValue e).run P w <;> rw [hz] at hq <;> simp only [Result.andThen_ok, Sem.run_pure] at hq ⊢ <;> (cases hq)
          rfl
        | some r' => simp only [outM, Sem.run_bind, Sem.run_pure, Result.andThen_ok] at hq ⊢; cases hq; rfl
    obtain ⟨l, hel, hlr⟩ := hl
    unfold lookupIn at h1
    cases hf : findI P kt k es with
    | none => rw [hf] at h1; cases h1
    | some r =>
      rw [hf] at h1
      obtain ⟨c1, r', c2, c3⟩ := find_sim h hk hel hf
      have key : ∀ (q : Value × Bool), ((outM e r').run P w = .ok q w) → (Instr.lookup t m' k' ok).run P w = .ok (if ok then .tuple #[q.1, .bool q.2] else q.1) w :=
        fun q hq => hlr q c1 ⟨r', c2, hq⟩
      cases r with
      | none =>
        simp only at h1
        cases hz : zero P e with
        | none => rw [hz] at h1; cases h1
        | some z =>
          rw [hz] at h1
          simp only at h1
          cases h1
          obtain ⟨z', q1, q2⟩ := zero_rel (ρ := ρ) (γ := γ) hz
          cases r' with
          | some _ => exact c3.elim
          | none =>
            refine Yields.same h (key (z', false) (by simp only [outM, Sem.run_bind, q1, Result.andThen_ok, Sem.run_pure])) ?_
            cases ok
            · exact q2
            · exact pair_rel q2
      | some r =>
        obtain ⟨j, v1, st⟩ := r
        simp only at h1
        cases h1
        cases r' with
        | none => exact c3.elim
        | some r' =>
          obtain ⟨j', v'⟩ := r'
          obtain ⟨_, _, e1, _, q2, q3, _⟩ := c3
          subst q3
          refine Yields.same h (key (e1.val, true) rfl) ?_
          cases ok
          · exact q2
          · exact pair_rel q2

theorem updV_sim {ρ : Rho} {s s' : St} {w : World} {t kt e : Nat} {m k v x : IV} {m' k' x' : Value} (h : Rel P γ ρ s w) (ht : mapT P t = some (kt, e)) (hm : VR ρ γ m m') (hk : VR ρ γ k k') (hx : VR ρ γ x x') (hr : updV P kt m k x s = .ok v s') :
    v = undefI ∧ ∃ w', (Instr.mapUpdate t m' k' x').run P w = .ok () w' ∧ Goes ρ s w ρ s' w' ∧ Rel P γ ρ s' w' := by
  unfold updV at hr
  cases hm <;> simp only at hr <;> (try (cases hr; done))
  rename_i b p hb
  unfold updateIn at hr
  cases hg : s.get b <;> rw [hg] at hr <;> simp only at hr <;> (try (cases hr; done))
  rename_i es cl
  have hd : ¬ Dead (s.get b) := by rw [hg]; exact fun h => h
  obtain ⟨l, q1, q2⟩ := h.mapRow hb hg
  cases hf : findI P kt k es with
  | none => rw [hf] at hr; cases hr
  | some r =>
    rw [hf] at hr
    obtain ⟨c1, r', c2, c3⟩ := find_sim h hk q2 hf
    have hget := run_getObj (P := P) q1 (by intro _ _ _ h; cases h)
    cases r with
    | none =>
      simp only at hr
      cases hr
      cases r' with
      | some _ => exact c3.elim
      | none =>
        obtain ⟨g1, g2⟩ := h.put hb hd (x := .map (es ++ [(k, x, cl)]) (Nat.succ cl)) (o := .map (l.push { key := k', val := x', born := cl }) (cl + 1))
          (.map _ _ _ (by simpa using EntR.snoc q2 (e := { key := k', val := x', born := cl }) hk hx))
        refine ⟨rfl, _, ?_, g2, g1⟩
        unfold Instr.mapUpdate
        simp only [Sem.run_bind, run_underlying (undI_eq (mapT_inv ht)), Result.andThen_ok, hget, c1, c2, run_setObj q1 (by intro _ _ _ h; cases h)]
    | some r =>
      obtain ⟨i, v1, st⟩ := r
      simp only at hr
      cases hr
      cases r' with
      | none => exact c3.elim
      | some r' =>
        obtain ⟨j', v'⟩ := r'
        obtain ⟨d1, _, e1, d2, d3, d4, d5, d6⟩ := c3
        subst d1 d4 d5
        rw [Nat.sub_zero] at d2
        obtain ⟨g1, g2⟩ := h.put hb hd (x := .map (Eng.setAt es j' (k, x, e1.born)) cl) (o := .map (l.modify j' fun e => { e with key := k', val := x' }) cl)
          (.map _ _ _ (by rw [modify_eq l j' _ e1 d2]; exact EntR.setAt q2 j' d2 (by rfl) hk hx))
        refine ⟨rfl, _, ?_, g2, g1⟩
        have hold : (((l[j']?).map (·.key)).getD k') = e1.key := by
          rw [← Array.getElem?_toList, d2]; rfl
        unfold Instr.mapUpdate
        simp only [Sem.run_bind, run_underlying (undI_eq (mapT_inv ht)), Result.andThen_ok, hget, c1, c2, hold, keyStays d6, run_setObj q1 (by intro _ _ _ h; cases h)]

theorem entV_sim {ρ : Rho} {s s' : St} {w : World} {t kt e : Nat} {m k v : IV} {m' k' : Value} (h : Rel P γ ρ s w) (ht : mapT P t = some (kt, e)) (hm : VR ρ γ m m') (hk : VR ρ γ k k') (hr : entV P kt e m k s = .ok v s') :
    Yields P γ ρ s w (Instr.mapEntry t m' k') v s' := by
  unfold entV at hr
  cases hm <;> simp only at hr <;> (try (cases hr; done))
  rename_i b p hb
  unfold entryIn at hr
  cases hg : s.get b <;> rw [hg] at hr <;> simp only at hr <;> (try (cases hr; done))
  rename_i es cl
  have hd : ¬ Dead (s.get b) := by rw [hg]; exact fun h => h
  obtain ⟨l, q1, q2⟩ := h.mapRow hb hg
  cases hf : findI P kt k es with
  | none => rw [hf] at hr; cases hr
  | some r =>
    rw [hf] at hr
    obtain ⟨c1, r', c2, c3⟩ := find_sim h hk q2 hf
    have hget := run_getObj (P := P) q1 (by intro _ _ _ h; cases h)
    cases r with
    | none =>
      simp only at hr
      cases hz : zero P e with
      | none => rw [hz] at hr; cases hr
      | some z =>
        rw [hz] at hr
        cases hr
        cases r' with
        | some _ => exact c3.elim
        | none =>
          obtain ⟨z', z1, z2⟩ := zero_rel (ρ := ρ) (γ := γ) hz
          obtain ⟨g1, g2⟩ := h.put hb hd (x := .map (es ++ [(k, z, cl)]) (Nat.succ cl)) (o := .map (l.push { key := k', val := z', born := cl }) (cl + 1))
            (.map _ _ _ (by simpa using EntR.snoc q2 (e := { key := k', val := z', born := cl }) hk z2))
          refine ⟨_, _, ρ, ?_, g2, g1, .tup _ #[z', goInt cl] (.cons _ _ _ _ z2 (.cons _ _ _ _ (.int _ _) .nil))⟩
          unfold Instr.mapEntry
          simp only [Sem.run_bind, run_underlying (undI_eq (mapT_inv ht)), Result.andThen_ok, hget, c1, c2, z1, run_setObj q1 (by intro _ _ _ h; cases h), Sem.run_pure]
    | some r =>
      obtain ⟨i, v1, st⟩ := r
      simp only at hr
      cases hr
      cases r' with
      | none => exact c3.elim
      | some r' =>
        obtain ⟨j', v'⟩ := r'
        obtain ⟨d1, _, e1, d2, d3, d4, d5, d6⟩ := c3
        subst d1 d4 d5
        rw [Nat.sub_zero] at d2
        obtain ⟨g1, g2⟩ := h.put hb hd (x := .map (Eng.setAt es j' (k, v1, e1.born)) cl) (o := .map (l.modify j' fun e => { e with key := k' }) cl)
          (.map _ _ _ (by rw [modify_eq l j' _ e1 d2]; exact EntR.setAt q2 j' d2 (by rfl) hk d3))
        have hold : (((l[j']?).map (·.key)).getD k') = e1.key := by
          rw [← Array.getElem?_toList, d2]; rfl
        have hborn : (((l[j']?).map (fun x => (x.born : Int))).getD 0) = (e1.born : Int) := by
          rw [← Array.getElem?_toList, d2]; rfl
        refine ⟨_, _, ρ, ?_, g2, g1, .tup _ #[e1.val, goInt e1.born] (.cons _ _ _ _ d3 (.cons _ _ _ _ (.int _ _) .nil))⟩
        unfold Instr.mapEntry
        simp only [Sem.run_bind, run_underlying (undI_eq (mapT_inv ht)), Result.andThen_ok, hget, c1, c2, hold, keyStays d6, hborn, run_setObj q1 (by intro _ _ _ h; cases h), Sem.run_pure]

theorem born_sim {ρ : Rho} {st : Nat} : ∀ {es : List (IV × IV × Nat)} {l : List MapEntry} {i : Nat} {j : Nat} {k : IV}, EntR ρ γ es l → findBorn st es i = some (j, k) →
    i ≤ j ∧ ∃ e, l[j - i]? = some e ∧ e.born = st ∧ VR ρ γ k e.key ∧ l.findIdx? (fun e => (e.born : Int) == (st : Int)) = some (j - i)
  | [], _, i, j, k, he, h => by cases h
  | _ :: es, _, i, j, k, he, h => by
    cases he with
    | cons k1 v1 e _ l hk hv he =>
      unfold findBorn at h
      rw [List.findIdx?_cons]
      cases hb : Nat.beq e.born st with
      | true =>
        rw [hb] at h
        cases h
        have := Nat.eq_of_beq_eq_true hb
        refine ⟨Nat.le_refl _, e, by rw [Nat.sub_self]; rfl, this, hk, ?_⟩
        subst this
        simp
      | false =>
        rw [hb] at h
        obtain ⟨h1, e1, h2, h3, h4, h5⟩ := born_sim he h
        have hne : e.born ≠ st := Nat.ne_of_beq_eq_false hb
        refine ⟨by omega, e1, ?_, h3, h4, ?_⟩
        · rw [show j - i = (j - (i + 1)) + 1 by omega, List.getElem?_cons_succ]; exact h2
        · have : ((e.born : Int) == (st : Int)) = false := by simp; omega
          rw [this]
          simp only [Bool.false_eq_true, if_false]
          simp only [Nat.succ_eq_add_one] at h5
          rw [h5]
          simp
          omega

theorem findIdx_list {p : MapEntry → Bool} (l : Array MapEntry) : l.findIdx? p = l.toList.findIdx? p := by
  cases l; simp
theorem entStV_sim {ρ : Rho} {s s' : St} {w : World} {t : Nat} {m st v x : IV} {m' st' x' : Value} (h : Rel P γ ρ s w) (hm : VR ρ γ m m') (hst : VR ρ γ st st') (hx : VR ρ γ x x') (hr : entStV m st x s = .ok v s') :
    v = undefI ∧ ∃ w', (Instr.entryStore t m' st' x').run P w = .ok () w' ∧ Goes ρ s w ρ s' w' ∧ Rel P γ ρ s' w' := by
  unfold entStV at hr
  cases hm <;> simp only at hr <;> (try (cases hr; done))
  rename_i b p hb
  cases hn : st.nat with
  | none => rw [hn] at hr; cases hr
  | some n =>
    rw [hn] at hr
    obtain ⟨kk, hkk⟩ : ∃ kk, st' = .int kk n := by
      cases hst <;> simp only [IV.nat] at hn <;> (try (cases hn; done))
      split at hn <;> (try (cases hn; done))
      cases hn
      exact ⟨_, rfl⟩
    subst hkk
    simp only at hr
    unfold storeIn at hr
    cases hg : s.get b <;> rw [hg] at hr <;> simp only at hr <;> (try (cases hr; done))
    rename_i es cl
    have hd : ¬ Dead (s.get b) := by rw [hg]; exact fun h => h
    obtain ⟨l, q1, q2⟩ := h.mapRow hb hg
    cases hf : findBorn n es 0 with
    | none => rw [hf] at hr; cases hr
    | some r =>
      obtain ⟨i, k⟩ := r
      rw [hf] at hr
      cases hr
      obtain ⟨d1, e1, d2, d3, d4, d5⟩ := born_sim q2 hf
      rw [Nat.sub_zero] at d2 d5
      subst d3
      obtain ⟨g1, g2⟩ := h.put hb hd (x := .map (Eng.setAt es i (k, x, e1.born)) cl) (o := .map (l.modify i fun e => { e with val := x' }) cl)
        (.map _ _ _ (by rw [modify_eq l i _ e1 d2]; exact EntR.setAt q2 i d2 (by rfl) d4 hx))
      refine ⟨rfl, _, ?_, g2, g1⟩
      have hget := run_getObj (P := P) q1 (by intro _ _ _ h; cases h)
      have hfi : l.findIdx? (fun e => (e.born : Int) == (e1.born : Int)) = some i := by
        rw [← d5]; exact (findIdx_list l)
      unfold Instr.entryStore
      simp only [Sem.run_bind, run_asInt, Result.andThen_ok, hget, Sem.run_pure, hfi, run_setObj q1 (by intro _ _ _ h; cases h)]

theorem makeMap_sim {ρ : Rho} {s : St} {w : World} {t : Nat} (h : Rel P γ ρ s w) : Yields P γ ρ s w (Instr.makeMap t none) (.map s.next) (s.new (.map [] 0)) := by
  let p : Pl := ⟨w.heap.size, 0, 0, 0⟩
  obtain ⟨h1, h2⟩ := h.new (p := p) rfl (x := .map [] 0) (o := .map #[] 0) (.map [] 0 #[] .nil)
  refine ⟨.map (some w.heap.size), _, _, ?_, h2, h1, VR.map (ρ := ρ.with s.next p) (γ := γ) s.next p (Rho.with_self _ _ _)⟩
  unfold Instr.makeMap
  simp only [Sem.run_bind, Sem.run_pure, Result.andThen_ok, run_newObj]
  rfl

theorem lenMap_sim {ρ : Rho} {s s' : St} {w : World} {x v : IV} {x' : Value} {kt e : Nat} {ts : Array TypeId} {rt : TypeId} (h : Rel P γ ρ s w) (hx : VR ρ γ x x') (ht : argT P ts 0 = some (.map kt e)) (hr : lenMapV x s = .ok v s') :
    Yields P γ ρ s w (Builtin.len_ ts rt #[x']) v s' := by
  unfold argT at ht
  cases h0 : ts[0]? with
  | none => rw [h0] at ht; cases ht
  | some t0 =>
    rw [h0] at ht
    unfold lenMapV at hr
    cases hx <;> simp only at hr <;> (try (cases hr; done))
    · cases hr
      refine Yields.same h ?_ (.int _ _)
      unfold Builtin.len_
      simp only [h0, Sem.run_bind, run_underlying (undI_eq ht), Result.andThen_ok, List.getElem?_toArray, List.getElem?_cons_zero]
      rfl
    · rename_i b p hb
      unfold lenMap at hr
      cases hg : s.get b <;> rw [hg] at hr <;> simp only at hr <;> (try (cases hr; done))
      rename_i es cl
      cases hr
      obtain ⟨l, q1, q2⟩ := h.mapRow hb hg
      have hsz : es.length = l.size := by simpa using q2.length
      refine Yields.same h ?_ (v' := goInt l.size) (by rw [← hsz]; exact .int _ _)
      unfold Builtin.len_
      simp only [h0, Sem.run_bind, run_underlying (undI_eq ht), Result.andThen_ok, List.getElem?_toArray, List.getElem?_cons_zero, run_getObj q1 (by intro _ _ _ h; cases h), Sem.run_pure]
end Go.Eng
end
section
set_option linter.constructorNameAsVariable false
set_option linter.unusedVariables false
set_option linter.unusedSimpArgs false
namespace Go.Eng
variable {P : Program} {γ : Gam}

/-- The program's variables stand where they stand. -/
def Glob (_P : Program) (_ρ : Rho) : Prop := True
theorem Glob.mono {ρ ρ' : Rho} (h : Glob P ρ) (hl : Le ρ ρ') : Glob P ρ' := trivial

/-- An operand, here and there. -/
def OpR (P : Program) (γ : Gam) (n : Nat) (ρ : Rho) (env : Env) (a : Go.Act) (x : Operand) : Prop := ∀ f, evT P n x = .mk f → VR ρ γ (f env) (a.eval x)
def OpsR (P : Program) (γ : Gam) (n : Nat) (ρ : Rho) (env : Env) (a : Go.Act) (l : List Operand) : Prop := ∀ x ∈ l, OpR P γ n ρ env a x

theorem OpsR.evs {n : Nat} {ρ : Rho} {env : Env} {a : Go.Act} : ∀ {l : List Operand} {f : Env → List IV}, OpsR P γ n ρ env a l → evsT P n l = .mk f → VRs ρ γ (f env) (l.map a.eval)
  | [], f, _, h => by cases h; exact .nil
  | x :: l, f, hr, h => by
    unfold evsT at h
    cases h1 : evT P n x with
    | no => rw [h1] at h; cases h
    | mk g =>
      rw [h1] at h
      simp only at h
      cases h2 : evsT P n l with
      | no => rw [h2] at h; cases h
      | mk gs =>
        rw [h2] at h
        simp only at h
        cases h
        exact .cons _ _ _ _ (hr x (.head _) g h1) (OpsR.evs (fun y hy => hr y (.tail _ hy)) h2)

theorem OpsR.evp {n : Nat} {ρ : Rho} {env : Env} {a : Go.Act} : ∀ {l : List (Nat × Operand)} {f : Env → List (Nat × IV)}, OpsR P γ n ρ env a (l.map (·.2)) → evpT P n l = .mk f → PR ρ γ (f env) (l.map fun (i, x) => (i, a.eval x))
  | [], f, _, h => by cases h; exact ⟨rfl, .nil⟩
  | (i, x) :: l, f, hr, h => by
    unfold evpT at h
    cases h1 : evT P n x with
    | no => rw [h1] at h; cases h
    | mk g =>
      rw [h1] at h
      simp only at h
      cases h2 : evpT P n l with
      | no => rw [h2] at h; cases h
      | mk gs =>
        rw [h2] at h
        simp only at h
        cases h
        obtain ⟨q1, q2⟩ := OpsR.evp (fun y hy => hr y (.tail _ hy)) h2
        exact ⟨by simp only [List.map_cons, q1], .cons _ _ _ _ (hr x (.head _) g h1) q2⟩

/-- What a call hands back. -/
def Ret (P : Program) (γ : Gam) (ρ : Rho) (s : St) (w : World) (v : IV) (s' : St) : Ending → World → Prop :=
  fun e w' => ∃ v' ρ', e = .returned v' ∧ Goes ρ s w ρ' s' w' ∧ Rel P γ ρ' s' w' ∧ VR ρ' γ v v'
/-- What an operation does. -/
def Gives (P : Program) (γ : Gam) (ρ : Rho) (s : St) (w : World) (m : Sem Next) (v : IV) (s' : St) : Prop :=
  (∃ v' w' ρ', m.run P w = .ok (.value v') w' ∧ Goes ρ s w ρ' s' w' ∧ Rel P γ ρ' s' w' ∧ VR ρ' γ v v') ∨
  (v = undefI ∧ ∃ w' ρ', m.run P w = .ok .skip w' ∧ Goes ρ s w ρ' s' w' ∧ Rel P γ ρ' s' w') ∨
  (∃ f args w', m.run P w = .ok (.enter f args) w' ∧ Calls P f args w' (Ret P γ ρ s w v s'))

theorem Gives.of_yields {ρ : Rho} {s s' : St} {w : World} {m : Sem Value} {v : IV} (h : Yields P γ ρ s w m v s') : Gives P γ ρ s w (do pure (.value (← m))) v s' := by
  obtain ⟨v', w', ρ', h1, h2⟩ := h
  exact .inl ⟨v', w', ρ', by simp only [Sem.run_bind, h1, Result.andThen_ok, Sem.run_pure], h2⟩

theorem Gives.wp {ρ : Rho} {s s' : St} {w : World} {o : Oper} {a : Go.Act} {v : IV} {K : Go.Act → World → Prop} {Q : Exit → Go.Act → World → Prop} (h : Gives P γ ρ s w (execOp a.eval o) v s')
    (hK : ∀ ρ' w' v', Goes ρ s w ρ' s' w' → Rel P γ ρ' s' w' → VR ρ' γ v v' → K (a.put o.dst v') w') : o.wp P a w K Q := by
  unfold Oper.wp
  rcases h with ⟨v', w', ρ', h1, h2, h3, h4⟩ | ⟨rfl, w', ρ', h1, h2, h3⟩ | ⟨f, args, w', h1, h2⟩
  · rw [h1]; exact hK _ _ _ h2 h3 h4
  · rw [h1]; exact hK _ _ _ h2 h3 (.tup [] #[] .nil)
  · rw [h1]
    refine Calls.mono h2 ?_
    rintro e w'' ⟨v', ρ', rfl, q1, q2, q3⟩
    exact hK _ _ _ q1 q2 q3

/-- Calls that are known. -/
def RecOk (P : Program) (γ : Gam) (rec : Rec) : Prop := ∀ f args s k v1 s1, rec f args s k = .ok v1 s1 → ∃ v s', k v s' = .ok v1 s1 ∧
  ∀ ρ w args', Rel P γ ρ s w → Glob P ρ → VRs ρ γ args args' → Calls P f args'.toArray w (Ret P γ ρ s w v s')
def ExtOk (P : Program) (γ : Gam) (X : Ext) : Prop := ∀ f args s v s', X.get f args s = some (.ok v s') →
  ∀ ρ w args', Rel P γ ρ s w → Glob P ρ → VRs ρ γ args args' → Calls P f args'.toArray w (Ret P γ ρ s w v s')

def ActOk (P : Program) (γ : Gam) (n : Nat) (op : Op) (A : Eng.Act) : Prop := ∀ fa, A = .mk fa → ∀ X rec, ExtOk P γ X → RecOk P γ rec → ∀ env s k v1 s1, fa X rec env s k = .ok v1 s1 →
  ∃ v s', k v s' = .ok v1 s1 ∧ ∀ (ρ : Rho) (w : World) (a : Go.Act) (o : Oper), o.op = op → Rel P γ ρ s w → Glob P ρ → OpsR P γ n ρ env a op.operands.toList → Gives P γ ρ s w (execOp a.eval o) v s'

theorem actOk_no {n : Nat} {op : Op} : ActOk P γ n op noAct := by
  intro fa hf X rec _ _ env s k v1 s1 h
  cases hf; cases h

theorem bind_ok {r : R} {k : KV} {v1 : IV} {s1 : St} (h : r.bind k = .ok v1 s1) : ∃ v s', r = .ok v s' ∧ k v s' = .ok v1 s1 := by
  cases r with
  | no => cases h
  | ok v s' => exact ⟨v, s', rfl, h⟩

theorem actOk_bind {n : Nat} {op : Op} (F : Env → St → R)
    (h : ∀ env s v s', F env s = .ok v s' → ∀ (ρ : Rho) (w : World) (a : Go.Act) (o : Oper), o.op = op → Rel P γ ρ s w → Glob P ρ → OpsR P γ n ρ env a op.operands.toList → Gives P γ ρ s w (execOp a.eval o) v s') :
    ActOk P γ n op (.mk fun _ _ env s q => (F env s).bind q) := by
  intro fa hf X rec _ _ env s k v1 s1 hr
  cases hf
  obtain ⟨v, s', h1, h2⟩ := bind_ok hr
  exact ⟨v, s', h2, h env s v s' h1⟩
/-- The same for what yields a value. -/
theorem actOk_val {n : Nat} {op : Op} (F : Env → St → R) (m : (Operand → Value) → Sem Value) (hm : ∀ (a : Go.Act) (o : Oper), o.op = op → execOp a.eval o = (do pure (.value (← m a.eval))))
    (h : ∀ env s v s', F env s = .ok v s' → ∀ (ρ : Rho) (w : World) (a : Go.Act), Rel P γ ρ s w → OpsR P γ n ρ env a op.operands.toList → Yields P γ ρ s w (m a.eval) v s') :
    ActOk P γ n op (.mk fun _ _ env s q => (F env s).bind q) := by
  refine actOk_bind F fun env s v s' hF ρ w a o ho hr hg hops => ?_
  rw [hm a o ho]
  exact Gives.of_yields (h env s v s' hF ρ w a hr hops)

theorem val_ok {s s' : St} {o : Option IV} {v : IV} (h : R.val s o = .ok v s') : o = some v ∧ s' = s := by
  cases o with
  | none => cases h
  | some x => cases h; exact ⟨rfl, rfl⟩

section ops
variable {n : Nat}

theorem move_ok (x : Operand) (op : Op) (hop : op = .move x ∨ op = .assign x) : ActOk P γ n op (xMove P n x) := by
  unfold xMove
  split
  · rename_i f hf
    refine actOk_bind (F := fun env s => .ok (f env) s) ?_
    intro env s v s' hF ρ w a o ho hr hg hops
    cases hF
    refine .inl ⟨a.eval x, w, ρ, ?_, Goes.refl ρ s w, hr, hops x (by rcases hop with rfl | rfl <;> exact .head _) f hf⟩
    rcases hop with rfl | rfl <;> simp only [execOp, ho, Sem.run_pure]
  · exact actOk_no

theorem pick_ok (c x y : Operand) : ActOk P γ n (.pick c x y) (xPick P n c x y) := by
  unfold xPick
  split <;> try exact actOk_no
  rename_i f1 h1
  split <;> try exact actOk_no
  rename_i f2 h2
  split <;> try exact actOk_no
  rename_i f3 h3
  refine actOk_bind (F := fun env s => pickB (f1 env) (f2 env) (f3 env) s) ?_
  intro env s v s' hF ρ w a o ho hr hg hops
  have hc := hops c (.head _) f1 h1
  have hx := hops x (.tail _ (.head _)) f2 h2
  have hy := hops y (.tail _ (.tail _ (.head _))) f3 h3
  have he : execOp a.eval o = (do pure (.value (if ← asBool (a.eval c) then a.eval x else a.eval y))) := by simp only [execOp, ho]
  rw [he]
  generalize f1 env = cv at hF hc
  generalize a.eval c = cv' at hc
  cases hc <;> (try (cases hF; done))
  rename_i t
  cases t
  · cases hF
    exact .inl ⟨_, w, ρ, rfl, Goes.refl ρ s w, hr, hy⟩
  · cases hF
    exact .inl ⟨_, w, ρ, rfl, Goes.refl ρ s w, hr, hx⟩

theorem alloc_ok (e : Nat) : ActOk P γ n (.alloc e) (xAlloc P e) := by
  unfold xAlloc
  split <;> try exact actOk_no
  rename_i z hz
  refine actOk_val (F := fun env s => .ok (.ptr s.next 0) (s.new (rowOf z.cells e 0))) (fun _ => Instr.alloc e true (.tuple #[])) (fun a o ho => by simp only [execOp, ho]) ?_
  intro env s v s' hF ρ w a hr hops
  cases hF
  exact alloc_sim hr hz

theorem box_ok (e : Nat) (x : Operand) : ActOk P γ n (.box e x) (xBox P n e x) := by
  unfold xBox
  split <;> try exact actOk_no
  rename_i f hf
  split <;> try exact actOk_no
  rename_i z hz
  refine actOk_val (F := fun env s => .ok (.ptr s.next 0) (s.new (rowOf (f env).cells e 0))) (fun ev => Instr.box e (ev x)) (fun a o ho => by simp only [execOp, ho]) ?_
  intro env s v s' hF ρ w a hr hops
  cases hF
  exact box_sim hr (hops x (.head _) f hf) hz

theorem build_ok (t : Nat) (ps : Array (Nat × Operand)) : ActOk P γ n (.build t ps) (xBuild P n t ps.toList) := by
  unfold xBuild
  split <;> try exact actOk_no
  rename_i f hf
  split <;> try exact actOk_no
  rename_i z hz
  split <;> try exact actOk_no
  rename_i u hu
  split <;> try exact actOk_no
  rename_i hb
  refine actOk_val (F := fun env s => valAgg s (buildIn P u z.cells (f env))) (fun ev => Instr.build t (ps.map fun (i, x) => (i, ev x))) (fun a o ho => by simp only [execOp, ho]) ?_
  intro env s v s' hF ρ w a hr hops
  have hp := OpsR.evp (l := ps.toList) (fun x hx => hops x (by simpa [Op.operands] using hx)) hf
  cases hc : buildIn P u z.cells (f env) with
  | none => rw [hc] at hF; cases hF
  | some c =>
    rw [hc] at hF
    cases hF
    refine build_sim hr hz hu ?_ (by simpa using hp) hc
    intro fs hfs
    subst hfs
    exact hb

theorem buildSlice_ok (t len : Nat) (ps : Array (Nat × Operand)) : ActOk P γ n (.buildSlice t len ps) (xBuildSlice P n t len ps.toList) := by
  unfold xBuildSlice
  split <;> try exact actOk_no
  rename_i f hf
  split <;> try exact actOk_no
  rename_i e he
  split <;> try exact actOk_no
  rename_i z hz
  split <;> try exact actOk_no
  rename_i k hk
  split <;> try exact actOk_no
  rename_i hb
  simp only [Bool.and_eq_true] at hb
  refine actOk_val (F := fun env s => newSl e len s (Eng.fill (fun i => some (i * k, k)) (rep len z.cells) (f env))) (fun ev => Instr.buildSlice t len (ps.map fun (i, x) => (i, ev x))) (fun a o ho => by simp only [execOp, ho]) ?_
  intro env s v s' hF ρ w a hr hops
  have hp := OpsR.evp (l := ps.toList) (fun x hx => hops x (by simpa [Op.operands] using hx)) hf
  cases hc : Eng.fill (fun i => some (i * k, k)) (rep len z.cells) (f env) with
  | none => simp only [hc] at hF; cases hF
  | some c =>
    simp only [hc] at hF
    cases hF
    exact buildSlice_sim hr he hz hk (Nat.le_of_ble_eq_true hb.1) (Nat.eq_of_beq_eq_true hb.2) (by simpa using hp) hc

theorem load_ok (t : Nat) (x : Operand) : ActOk P γ n (.load t x) (xLoad P n t x) := by
  unfold xLoad
  split <;> try exact actOk_no
  rename_i f hf
  split <;> try exact actOk_no
  · rename_i ht
    split <;> try exact actOk_no
    rename_i k hk
    refine actOk_val (F := fun env s => loadA k (f env) s) (fun ev => Instr.loadAt t (ev x)) (fun a o ho => by simp only [execOp, ho]) ?_
    intro env s v s' hF ρ w a hr hops
    exact loadA_sim hr (hops x (.head _) f hf) ht hk hF
  · rename_i ht
    refine actOk_val (F := fun env s => load1 (f env) s) (fun ev => Instr.loadAt t (ev x)) (fun a o ho => by simp only [execOp, ho]) ?_
    intro env s v s' hF ρ w a hr hops
    exact load1_sim hr (hops x (.head _) f hf) ht hF

theorem store_ok (t : Nat) (x y : Operand) : ActOk P γ n (.store t x y) (xStore P n t x y) := by
  unfold xStore
  split <;> try exact actOk_no
  rename_i f hf
  split <;> try exact actOk_no
  rename_i g hg
  split <;> try exact actOk_no
  rename_i k hk
  refine actOk_bind (F := fun env s => storeV k (f env) (g env) s) ?_
  intro env s v s' hF ρ w a o ho hr hgl hops
  obtain ⟨rfl, w', h1, h2, h3⟩ := store_sim hr (hops x (.head _) f hf) (hops y (.tail _ (.head _)) g hg) hk hF
  refine .inr (.inl ⟨rfl, w', ρ, ?_, h2, h3⟩)
  simp only [execOp, ho, Sem.run_bind, h1, Result.andThen_ok, Sem.run_pure]

theorem nil_ok (x : Operand) : ActOk P γ n (.nilCheck x) (xNil P n x) := by
  unfold xNil
  split <;> try exact actOk_no
  rename_i f hf
  refine actOk_bind (F := fun env s => nilV (f env) s) ?_
  intro env s v s' hF ρ w a o ho hr hgl hops
  have hx := hops x (.head _) f hf
  generalize hcv : f env = cv at hF hx
  generalize hev : a.eval x = cv' at hx
  have hx0 := hx
  have fin : (execOp a.eval o).run P w = .ok (.value cv') w → v = cv → s' = s → Gives P γ ρ s w (execOp a.eval o) v s' := by
    rintro h1 rfl rfl
    exact .inl ⟨_, w, ρ, h1, Goes.refl ρ _ w, hr, hx0⟩
  cases hx <;> (try (cases hF; done))
  · cases hF
    exact fin (by unfold execOp; simp only [ho, hev]; rfl) rfl rfl
  · rename_i fn as cs as' cs' hy h1 h2
    cases fn <;> (try (cases hF; done))
    cases hF
    exact fin (by unfold execOp; simp only [ho, hev]; rfl) rfl rfl
  · cases hF
    exact fin (by unfold execOp; simp only [ho, hev]; rfl) rfl rfl

theorem un_ok (op : UnOp) (t : Nat) (x : Operand) : ActOk P γ n (.unOp op t x) (xUn P n op x) := by
  unfold xUn
  split <;> try exact actOk_no
  rename_i f hf
  refine actOk_val (F := fun env s => R.val s (unop op (f env))) (fun ev => Op.unary op (ev x)) (fun a o ho => by simp only [execOp, ho]) ?_
  intro env s v s' hF ρ w a hr hops
  obtain ⟨h1, rfl⟩ := val_ok hF
  obtain ⟨v', q1, q2⟩ := unop_sim (w := w) (hops x (.head _) f hf) h1
  exact Yields.same hr q1 q2

theorem conv_ok (src dst : Nat) (x : Operand) : ActOk P γ n (.convert src dst x) (xConv P n src dst x) := by
  unfold xConv
  split <;> try exact actOk_no
  rename_i f hf
  split <;> try exact actOk_no
  rename_i us hus
  split <;> try exact actOk_no
  rename_i ud hud
  refine actOk_val (F := fun env s => convAt P src dst us ud (f env) s) (fun ev => convert src dst (ev x)) (fun a o ho => by simp only [execOp, ho]) ?_
  intro env s v s' hF ρ w a hr hops
  exact conv_sim hr hus hud (hops x (.head _) f hf) hF

theorem iface_ok (t : Nat) (x : Operand) : ActOk P γ n (.makeInterface t x) (xIface P n t x) := by
  unfold xIface
  split <;> try exact actOk_no
  rename_i f hf
  split <;> try exact actOk_no
  rename_i u hu
  split <;> try exact actOk_no
  rename_i hn
  refine actOk_val (F := fun env s => .ok (.iface t (f env)) s) (fun ev => Instr.makeInterface t (ev x)) (fun a o ho => by simp only [execOp, ho]) ?_
  intro env s v s' hF ρ w a hr hops
  cases hF
  exact iface_sim hr hu hn (hops x (.head _) f hf)

theorem func_ok (f : Fn) (as bs : Array Operand) : ActOk P γ n (.makeFunc f as bs) (xFunc P n f as.toList bs.toList) := by
  unfold xFunc
  split <;> try exact actOk_no
  rename_i g hg
  split <;> try exact actOk_no
  rename_i g2 hg2
  split <;> try exact actOk_no
  rename_i hn
  refine actOk_val (F := fun env s => .ok (.fn f (g env) (g2 env)) s) (fun ev => Instr.makeFunc f (as.map ev) (bs.map ev)) (fun a o ho => by simp only [execOp, ho]) ?_
  intro env s v s' hF ρ w a hr hops
  cases hF
  refine Yields.same hr rfl (.fn _ _ _ _ _ hn ?_ ?_)
  · have := OpsR.evs (l := as.toList) (fun x hx => hops x (by simp [Op.operands]; exact .inl (by simpa using hx))) hg
    simpa using this
  · have := OpsR.evs (l := bs.toList) (fun x hx => hops x (by simp [Op.operands]; exact .inr (by simpa using hx))) hg2
    simpa using this

theorem makeSlice_ok (t : Nat) (l c : Operand) : ActOk P γ n (.makeSlice t l c) (xMakeSlice P n t l c) := by
  unfold xMakeSlice
  split <;> try exact actOk_no
  rename_i f hf
  split <;> try exact actOk_no
  rename_i g hg
  split <;> try exact actOk_no
  rename_i e he
  split <;> try exact actOk_no
  rename_i z hz
  split <;> try exact actOk_no
  rename_i k hk
  split <;> try exact actOk_no
  rename_i hb
  refine actOk_val (F := fun env s => makeSl' e (bytesT P e) z.cells (f env) (g env) s) (fun ev => Instr.makeSlice t (ev l) (ev c)) (fun a o ho => by simp only [execOp, ho]) ?_
  intro env s v s' hF ρ w a hr hops
  exact makeSlice_sim hr he hz hk (Nat.eq_of_beq_eq_true hb) (hops l (.head _) f hf) (hops c (.tail _ (.head _)) g hg) hF

theorem fieldAddr_ok (t k : Nat) (x : Operand) : ActOk P γ n (.fieldAddr t x k) (xFieldAddr P n t k x) := by
  unfold xFieldAddr
  split <;> try exact actOk_no
  rename_i f hf
  split <;> try exact actOk_no
  rename_i fd hfd
  split <;> try exact actOk_no
  rename_i m hm
  refine actOk_val (F := fun env s => addrV fd.offset (f env) s) (fun ev => Instr.fieldAt t (ev x) k) (fun a o ho => by simp only [execOp, ho]) ?_
  intro env s v s' hF ρ w a hr hops
  exact fieldAddr_sim hr hfd hm (hops x (.head _) f hf) hF

theorem field_ok (t k : Nat) (x : Operand) : ActOk P γ n (.field t x k) (xField P n t k x) := by
  unfold xField
  split <;> try exact actOk_no
  rename_i f hf
  split <;> try exact actOk_no
  rename_i fd hfd
  refine actOk_val (F := fun env s => partV P fd.type fd.offset (f env) s) (fun ev => Instr.field t (ev x) k) (fun a o ho => by simp only [execOp, ho]) ?_
  intro env s v s' hF ρ w a hr hops
  exact field_sim hr hfd (hops x (.head _) f hf) hF

theorem indexAddr_ok (t : Nat) (x i : Operand) : ActOk P γ n (.indexAddr t x i) (xIndexAddr P n t x i) := by
  unfold xIndexAddr
  split <;> try exact actOk_no
  rename_i f hf
  split <;> try exact actOk_no
  rename_i g hg
  split <;> try exact actOk_no
  · rename_i e hu
    split <;> try exact actOk_no
    rename_i sz hsz
    refine actOk_val (F := fun env s => atSl sz (f env) (g env) s) (fun ev => Instr.indexAt t (ev x) (ev i)) (fun a o ho => by simp only [execOp, ho]) ?_
    intro env s v s' hF ρ w a hr hops
    exact atSl_sim hr hu hsz (hops x (.head _) f hf) (hops i (.tail _ (.head _)) g hg) hF
  · rename_i m e hu
    split <;> try exact actOk_no
    rename_i sz hsz
    refine actOk_val (F := fun env s => atArr m sz (f env) (g env).nat s) (fun ev => Instr.indexAt t (ev x) (ev i)) (fun a o ho => by simp only [execOp, ho]) ?_
    intro env s v s' hF ρ w a hr hops
    exact atArr_sim hr hu hsz (hops x (.head _) f hf) (hops i (.tail _ (.head _)) g hg) hF

theorem index_ok (t : Nat) (x i : Operand) : ActOk P γ n (.index t x i) (xIndex P n t x i) := by
  unfold xIndex
  split <;> try exact actOk_no
  rename_i f hf
  split <;> try exact actOk_no
  rename_i g hg
  split <;> try exact actOk_no
  · rename_i hu
    refine actOk_val (F := fun env s => atStr (f env) (g env).nat s) (fun ev => Instr.index t (ev x) (ev i)) (fun a o ho => by simp only [execOp, ho]) ?_
    intro env s v s' hF ρ w a hr hops
    exact atStr_sim hr hu (hops x (.head _) f hf) (hops i (.tail _ (.head _)) g hg) hF
  · rename_i m e hu
    split <;> try exact actOk_no
    rename_i sz hsz
    refine actOk_val (F := fun env s => atAgg P m e sz (f env) (g env).nat s) (fun ev => Instr.index t (ev x) (ev i)) (fun a o ho => by simp only [execOp, ho]) ?_
    intro env s v s' hF ρ w a hr hops
    exact atAgg_sim hr hu hsz (hops x (.head _) f hf) (hops i (.tail _ (.head _)) g hg) hF

theorem range_ok (t : Nat) (x : Operand) : ActOk P γ n (.range t x) (xRange P n t x) := by
  unfold xRange
  split <;> try exact actOk_no
  rename_i f hf
  split <;> try exact actOk_no
  rename_i ht
  refine actOk_val (F := fun env s => rangeV (f env) s) (fun ev => Instr.range t (ev x)) (fun a o ho => by simp only [execOp, ho]) ?_
  intro env s v s' hF ρ w a hr hops
  exact range_sim hr ht (hops x (.head _) f hf) hF

theorem makeMap_ok (t : Nat) (r : Option Operand) : ActOk P γ n (.makeMap t r) (xMakeMap n r) := by
  unfold xMakeMap
  cases r with
  | some _ => exact actOk_no
  | none =>
    refine actOk_val (F := fun _ s => .ok (.map s.next) (s.new (.map [] 0))) (fun _ => Instr.makeMap t none) (fun a o ho => by simp only [execOp, ho]; rfl) ?_
    intro env s v s' hF ρ w a hr hops
    cases hF
    exact makeMap_sim hr

theorem lookup_ok (t : Nat) (x y : Operand) (ok : Bool) : ActOk P γ n (.lookup t x y ok) (xLookup P n t x y ok) := by
  unfold xLookup
  split <;> try exact actOk_no
  rename_i f hf
  split <;> try exact actOk_no
  rename_i g hg
  split <;> try exact actOk_no
  rename_i kt e ht
  refine actOk_val (F := fun env s => lookV P kt e ok (f env) (g env) s) (fun ev => Instr.lookup t (ev x) (ev y) ok) (fun a o ho => by simp only [execOp, ho]) ?_
  intro env s v s' hF ρ w a hr hops
  exact lookV_sim hr ht (hops x (.head _) f hf) (hops y (.tail _ (.head _)) g hg) hF

theorem update_ok (t : Nat) (x y z : Operand) (op : Op) (hop : op = .mapUpdate t x y z ∨ op = .insert t x y z) : ActOk P γ n op (xUpdate P n t x y z) := by
  have hmem : op.operands.toList = [x, y, z] := by rcases hop with rfl | rfl <;> rfl
  unfold xUpdate
  split <;> try exact actOk_no
  rename_i f hf
  split <;> try exact actOk_no
  rename_i g hg
  split <;> try exact actOk_no
  rename_i v hv
  split <;> try exact actOk_no
  rename_i kt e ht
  refine actOk_bind (F := fun env s => updV P kt (f env) (g env) (v env) s) ?_
  intro env s v0 s' hF ρ w a o ho hr hgl hops
  rw [hmem] at hops
  obtain ⟨rfl, w', h1, h2, h3⟩ := updV_sim hr ht (hops x (.head _) f hf) (hops y (.tail _ (.head _)) g hg) (hops z (.tail _ (.tail _ (.head _))) v hv) hF
  refine .inr (.inl ⟨rfl, w', ρ, ?_, h2, h3⟩)
  rcases hop with rfl | rfl <;> simp only [execOp, ho, Sem.run_bind, h1, Result.andThen_ok, Sem.run_pure]

theorem entry_ok (t : Nat) (x y : Operand) : ActOk P γ n (.mapEntry t x y) (xEntry P n t x y) := by
  unfold xEntry
  split <;> try exact actOk_no
  rename_i f hf
  split <;> try exact actOk_no
  rename_i g hg
  split <;> try exact actOk_no
  rename_i kt e ht
  refine actOk_val (F := fun env s => entV P kt e (f env) (g env) s) (fun ev => Instr.mapEntry t (ev x) (ev y)) (fun a o ho => by simp only [execOp, ho]) ?_
  intro env s v s' hF ρ w a hr hops
  exact entV_sim hr ht (hops x (.head _) f hf) (hops y (.tail _ (.head _)) g hg) hF

theorem entryStore_ok (t : Nat) (x y z : Operand) : ActOk P γ n (.entryStore t x y z) (xEntryStore P n x y z) := by
  unfold xEntryStore
  split <;> try exact actOk_no
  rename_i f hf
  split <;> try exact actOk_no
  rename_i g hg
  split <;> try exact actOk_no
  rename_i v hv
  refine actOk_bind (F := fun env s => entStV (f env) (g env) (v env) s) ?_
  intro env s v0 s' hF ρ w a o ho hr hgl hops
  obtain ⟨rfl, w', h1, h2, h3⟩ := entStV_sim (t := t) hr (hops x (.head _) f hf) (hops y (.tail _ (.head _)) g hg) (hops z (.tail _ (.tail _ (.head _))) v hv) hF
  refine .inr (.inl ⟨rfl, w', ρ, ?_, h2, h3⟩)
  simp only [execOp, ho, Sem.run_bind, h1, Result.andThen_ok, Sem.run_pure]

theorem assert_ok (x : Operand) (xt t : Nat) (ok : Bool) : ActOk P γ n (.typeAssert x xt t ok) (xAssert P n t x ok) := by
  unfold xAssert
  split <;> try exact actOk_no
  rename_i f hf
  split <;> try exact actOk_no
  rename_i u hu
  split
  · rename_i want
    refine actOk_val (F := fun env s => R.val s (assertI P t ok want (f env))) (fun ev => Instr.typeAssert (ev x) xt t ok) (fun a o ho => by simp only [execOp, ho]) ?_
    intro env s v s' hF ρ w a hr hops
    obtain ⟨h1, rfl⟩ := val_ok hF
    exact assertI_sim hr hu (hops x (.head _) f hf) h1
  · rename_i hni
    refine actOk_val (F := fun env s => R.val s (assertC P t ok (f env))) (fun ev => Instr.typeAssert (ev x) xt t ok) (fun a o ho => by simp only [execOp, ho]) ?_
    intro env s v s' hF ρ w a hr hops
    obtain ⟨h1, rfl⟩ := val_ok hF
    exact assertC_sim hr hu (fun ms e => hni ms (by rw [e])) (hops x (.head _) f hf) h1

theorem extract_ok (x : Operand) (i : Nat) : ActOk P γ n (.extract x i) (xExtract P n x i) := by
  unfold xExtract
  split <;> try exact actOk_no
  rename_i f hf
  refine actOk_val (F := fun env s => extrV i (f env) s) (fun ev => Instr.extract (ev x) i) (fun a o ho => by simp only [execOp, ho]) ?_
  intro env s v s' hF ρ w a hr hops
  exact extract_sim hr (hops x (.head _) f hf) hF
end ops
end Go.Eng
end
section
set_option linter.constructorNameAsVariable false
set_option linter.unusedVariables false
set_option linter.unusedSimpArgs false
namespace Go.Eng
variable {P : Program} {γ : Gam}

theorem binV_inv {op : BinOp} {t : Nat} {x y : Operand} {a b v : IV} {s s' : St} (h : binV P op t x y a b s = .ok v s') : eqSafe P op t x y a b = true ∧ binop P op t a b = some v ∧ s' = s := by
  unfold binV at h
  cases he : eqSafe P op t x y a b with
  | false => rw [he] at h; cases h
  | true =>
    rw [he] at h
    obtain ⟨h1, h2⟩ := val_ok h
    exact ⟨rfl, h1, h2⟩

theorem binInt_inv {op : BinOp} {f : IntKind → Int → Int → Option IV} {t : Nat} {x y : Operand} {a b v : IV} {s s' : St} (hf : intOp op = .mk f) (h : binInt P op f t x y a b s = .ok v s') :
    eqSafe P op t x y a b = true ∧ binop P op t a b = some v ∧ s' = s := by
  unfold binInt at h
  cases a <;> (try exact binV_inv h)
  rename_i k m
  cases b <;> (try exact binV_inv h)
  rename_i k' m'
  change Bool.rec (motive := fun _ => R) (binV P op t x y (.int k m) (.int k' m') s) (R.val s (f k m m')) (kindEq k k') = .ok v s' at h
  cases hk : kindEq k k' with
  | false => rw [hk] at h; exact binV_inv h
  | true =>
    rw [hk] at h
    obtain ⟨h1, h2⟩ := val_ok h
    refine ⟨by cases op <;> rfl, ?_, h2⟩
    have hd : intDo op k m m' = some v := by unfold intDo; rw [hf]; exact h1
    simp only [binop, intPair, hk]
    cases isShift op <;> exact hd

section ops
variable {n : Nat}

theorem bin_ok (op : BinOp) (t : Nat) (x y : Operand) (yt : Nat) : ActOk P γ n (.binOp op t x y yt) (xBin P n op t x y) := by
  unfold xBin
  split <;> try exact actOk_no
  rename_i f hf
  split <;> try exact actOk_no
  rename_i g hg
  split
  rename_i h hop
  refine actOk_val (F := fun env s => binInt P op h t x y (f env) (g env) s) (fun ev => do eqGuard op t x y (ev x) (ev y); binOp op t (ev x) (ev y)) (fun a o ho => by simp only [execOp, ho]) ?_
  intro env s v s' hF ρ w a hr hops
  obtain ⟨h1, h2, rfl⟩ := binInt_inv hop hF
  have hx := hops x (.head _) f hf
  have hy := hops y (.tail _ (.head _)) g hg
  obtain ⟨v', q1, q2⟩ := binop_sim hr hx hy h2
  refine Yields.same hr ?_ q2
  simp only [Sem.run_bind, eqGuard_sim hx hy h1, Result.andThen_ok, q1]

theorem evn_rel {ρ : Rho} {env : Env} {a : Go.Act} {x : Option Operand} {r : Option Nat} (hops : OpsR P γ n ρ env a x.toList) (h : evnGet (evnT P n x) env = some r) : NR ρ γ r (x.map a.eval) := by
  cases x with
  | none => cases h; trivial
  | some x =>
    unfold evnT at h
    cases he : evT P n x with
    | no => simp only [he] at h; cases h
    | mk f =>
      simp only [he, evnGet] at h
      cases hn : (f env).nat with
      | none => simp only [hn] at h; cases h
      | some m =>
        simp only [hn] at h
        cases h
        exact nat_inv (hops x (.head _) f he) hn

theorem slice_ok (t : Nat) (x : Operand) (lo hi mx : Option Operand) : ActOk P γ n (.slice t x lo hi mx) (xSlice P n t x lo hi mx) := by
  unfold xSlice
  split <;> try exact actOk_no
  rename_i f hf
  split <;> try exact actOk_no
  rename_i u hu
  split <;> try exact actOk_no
  rename_i hmo
  refine actOk_val (F := fun env s => sliceV P u (f env) (evnGet (evnT P n lo) env) (evnGet (evnT P n hi) env) (evnGet (evnT P n mx) env) s) (fun ev => Instr.sliceAt t (ev x) (lo.map ev) (hi.map ev) (mx.map ev))
    (fun a o ho => by simp only [execOp, ho]) ?_
  intro env s v s' hF ρ w a hr hops
  have hx := hops x (by simp [Op.operands]) f hf
  unfold sliceV at hF
  split at hF <;> (try (cases hF; done))
  rename_i lo' hlo
  split at hF <;> (try (cases hF; done))
  rename_i hi' hhi
  split at hF <;> (try (cases hF; done))
  rename_i mx' hmx
  split at hF <;> (try (cases hF; done))
  rename_i hok
  obtain ⟨h1, rfl⟩ := val_ok hF
  have hl := evn_rel (fun y hy => hops y (by simp [Op.operands] at hy ⊢; exact .inr (.inl hy))) hlo
  have hh := evn_rel (fun y hy => hops y (by simp [Op.operands] at hy ⊢; exact .inr (.inr (.inl hy)))) hhi
  have hm := evn_rel (fun y hy => hops y (by simp [Op.operands] at hy ⊢; exact .inr (.inr (.inr hy)))) hmx
  refine sliceAtT_sim hr hu hx hl hh hm ?_ ?_ h1
  · cases mx with
    | none => cases mx' with
      | none => exact .inl rfl
      | some _ => exact hm.elim
    | some _ => cases hi with
      | none => cases hmo
      | some _ => cases hi' with
        | none => exact hh.elim
        | some _ => exact .inr (fun h => by cases h)
  · intro b o m c p e hxe hue hb
    rw [hxe, hue] at hok
    unfold slOk at hok
    simp only at hok
    unfold rowIs at hok
    split at hok <;> (try (cases hok; done))
    rename_i c1 len e1 fz tag hg
    obtain ⟨arr, fr, q1, q2⟩ := hr.row hb hg
    have := Nat.eq_of_beq_eq_true hok
    subst this
    cases q2 with
    | cells _ _ _ _ _ _ _ hl' ha hcs hf hst htg hz => exact hz

theorem next_ok (x : Operand) (str : Bool) : ActOk P γ n (.next x str) (xNext P n x str) := by
  unfold xNext
  split <;> try exact actOk_no
  rename_i f hf
  cases str
  · exact actOk_no
  · refine actOk_bind (F := fun env s => nextV (f env) s) ?_
    intro env s v s' hF ρ w a o ho hr hg hops
    have he : execOp a.eval o = (do pure (.value (← Instr.next (a.eval x) true o.type))) := by simp only [execOp, ho]
    rw [he]
    exact Gives.of_yields (next_sim hr (hops x (.head _) f hf) hF)

/- built-in functions -/
theorem run_builtin {b : Builtin} {c : Call} {a : Go.Act} {o : Oper} (ho : o.op = .call c) (hb : c.callee = .builtin b) :
    ∃ cs, execOp a.eval o = (do let d ← (pure { target := .builtin b c.argTypes o.type cs, args := c.args.map a.eval } : Sem Deferred); invoke d.target d.args) :=
  ⟨_, by simp only [execOp, ho, resolve, hb]; rfl⟩

theorem builtin_gives {b : Builtin} {c : Call} {a : Go.Act} {o : Oper} {ρ : Rho} {s s' : St} {w : World} {v : IV} {m : Sem Value} (ho : o.op = .call c) (hb : c.callee = .builtin b)
    (hm : ∀ cs, builtin b c.argTypes o.type cs (c.args.map a.eval) = (do pure (.value (← m)))) (h : Yields P γ ρ s w m v s') : Gives P γ ρ s w (execOp a.eval o) v s' := by
  obtain ⟨cs, he⟩ := run_builtin (a := a) ho hb
  rw [he]
  have := Gives.of_yields h
  have e : ∀ w, ((do let d ← (pure { target := .builtin b c.argTypes o.type cs, args := c.args.map a.eval } : Sem Deferred); invoke d.target d.args) : Sem Next).run P w =
      (do pure (.value (← m)) : Sem Next).run P w := by
    intro w
    simp only [Sem.run_bind, Sem.run_pure, Result.andThen_ok]
    show (builtin b c.argTypes o.type _ (c.args.map a.eval)).run P w = _
    rw [hm]
    simp only [Sem.run_bind, Sem.run_pure]
  unfold Gives at this ⊢
  rw [e]
  exact this

theorem b1_ok (c : Call) (b : Builtin) (x : Operand) (hb : c.callee = .builtin b) (hc : c.args.toList = [x]) {f : Env → IV} (hf : evT P n x = .mk f) : ActOk P γ n (.call c) (b1T P b c.argTypes f) := by
  have hargs : c.args = #[x] := by apply Array.ext'; simpa using hc
  have hmem : x ∈ (Op.call c).operands.toList := by simp [Op.operands, Call.operands, hb, hargs]
  unfold b1T
  split <;> try exact actOk_no
  · split <;> try exact actOk_no
    · rename_i ht
      refine actOk_bind (F := fun env s => lenStr (f env) s) ?_
      intro env s v s' hF ρ w a o ho hr hg hops
      exact builtin_gives ho hb (fun cs => by rw [hargs, List.map_toArray]; rfl) (lenStr_sim hr ht (hops x hmem f hf) hF)
    · rename_i kt e ht
      refine actOk_bind (F := fun env s => lenMapV (f env) s) ?_
      intro env s v s' hF ρ w a o ho hr hg hops
      exact builtin_gives ho hb (fun cs => by rw [hargs, List.map_toArray]; rfl) (lenMap_sim hr (hops x hmem f hf) ht hF)
    · rename_i e ht
      refine actOk_bind (F := fun env s => lenSl (f env) s) ?_
      intro env s v s' hF ρ w a o ho hr hg hops
      exact builtin_gives ho hb (fun cs => by rw [hargs, List.map_toArray]; rfl) (lenSl_sim hr ⟨e, ht⟩ (hops x hmem f hf) hF)
  · split <;> try exact actOk_no
    rename_i e ht
    refine actOk_bind (F := fun env s => capOf (f env) s) ?_
    intro env s v s' hF ρ w a o ho hr hg hops
    exact builtin_gives ho hb (fun cs => by rw [hargs, List.map_toArray]; rfl) (cap_sim hr ⟨e, ht⟩ (hops x hmem f hf) hF)
  · split <;> try exact actOk_no
    rename_i e ht
    split <;> try exact actOk_no
    rename_i z hz
    refine actOk_bind (F := fun env s => doClear z.cells s (f env)) ?_
    intro env s v s' hF ρ w a o ho hr hg hops
    exact builtin_gives ho hb (fun cs => by rw [hargs, List.map_toArray]; rfl) (clear_sim hr ht hz (hops x hmem f hf) hF)
  · refine actOk_bind (F := fun env s => doData (f env) s) ?_
    intro env s v s' hF ρ w a o ho hr hg hops
    exact builtin_gives ho hb (fun cs => by rw [hargs, List.map_toArray]; rfl) (data_sim hr (hops x hmem f hf) hF)

theorem b2_ok (c : Call) (b : Builtin) (x y : Operand) (hb : c.callee = .builtin b) (hc : c.args.toList = [x, y]) {f g : Env → IV} (hf : evT P n x = .mk f) (hg : evT P n y = .mk g) : ActOk P γ n (.call c) (b2T P b c.argTypes f g) := by
  have hargs : c.args = #[x, y] := by apply Array.ext'; simpa using hc
  have hmx : x ∈ (Op.call c).operands.toList := by simp [Op.operands, Call.operands, hb, hargs]
  have hmy : y ∈ (Op.call c).operands.toList := by simp [Op.operands, Call.operands, hb, hargs]
  unfold b2T
  split <;> try exact actOk_no
  · split <;> try exact actOk_no
    rename_i e sz he
    split <;> try exact actOk_no
    rename_i hz
    simp only [Bool.and_eq_true] at hz
    refine actOk_bind (F := fun env s => Eng.append P e sz s (f env) (g env)) ?_
    intro env s v s' hF ρ w a o ho hr hgl hops
    exact builtin_gives ho hb (fun cs => by rw [hargs, List.map_toArray]; rfl) (append_sim hr he hz.1 hz.2 (hops x hmx f hf) (hops y hmy g hg) hF)
  · split <;> try exact actOk_no
    rename_i e sz he
    refine actOk_bind (F := fun env s => doCopy sz s (f env) (g env)) ?_
    intro env s v s' hF ρ w a o ho hr hgl hops
    exact builtin_gives ho hb (fun cs => by rw [hargs, List.map_toArray]; rfl) (copy_sim hr he (hops x hmx f hf) (hops y hmy g hg) hF)
  · refine actOk_bind (F := fun env s => doMinMax minI (f env) (g env) s) ?_
    intro env s v s' hF ρ w a o ho hr hgl hops
    exact builtin_gives ho hb (fun cs => by rw [hargs, List.map_toArray]; rfl) (min_sim hr (hops x hmx f hf) (hops y hmy g hg) hF)
  · refine actOk_bind (F := fun env s => doMinMax maxI (f env) (g env) s) ?_
    intro env s v s' hF ρ w a o ho hr hgl hops
    exact builtin_gives ho hb (fun cs => by rw [hargs, List.map_toArray]; rfl) (max_sim hr (hops x hmx f hf) (hops y hmy g hg) hF)
  · split <;> try exact actOk_no
    rename_i e he
    refine actOk_bind (F := fun env s => doString e (f env) (g env) s) ?_
    intro env s v s' hF ρ w a o ho hr hgl hops
    exact builtin_gives ho hb (fun cs => by rw [hargs, List.map_toArray]; rfl) (string_sim hr he (hops x hmx f hf) (hops y hmy g hg) hF)

theorem builtin_ok (c : Call) (b : Builtin) (hb : c.callee = .builtin b) : ActOk P γ n (.call c) (xBuiltin P n b c.argTypes c.args.toList) := by
  unfold xBuiltin
  split <;> try exact actOk_no
  · rename_i x hc
    split <;> try exact actOk_no
    rename_i f hf
    exact b1_ok c b x hb hc hf
  · rename_i x y hc
    split <;> try exact actOk_no
    rename_i f hf
    split <;> try exact actOk_no
    rename_i g hg
    exact b2_ok c b x y hb hc hf hg
end ops
end Go.Eng
end
section
set_option linter.constructorNameAsVariable false
set_option linter.unusedVariables false
set_option linter.unusedSimpArgs false
namespace Go.Eng
variable {P : Program} {γ : Gam}

theorem indexOf_eq (c : Nat) (hc : c < 256) : ∀ (l : List UInt8) (i : Nat), indexOf c (l.map UInt8.toNat) i = if Lib.indexByte l c.toUInt8 == -1 then -1 else Lib.indexByte l c.toUInt8 + i
  | [], i => rfl
  | b :: l, i => by
    have ih := indexOf_eq c hc l (i + 1)
    have hge := Lib.indexByte_ge l c.toUInt8
    have hbc : (b == c.toUInt8) = Nat.beq b.toNat c := by
      rw [Bool.eq_iff_iff]
      constructor
      · intro h
        have h1 : b = c.toUInt8 := by simpa using h
        subst h1
        have h2 : c.toUInt8.toNat = c := by simp; omega
        rw [h2]; exact Nat.beq_refl c
      · intro h
        have h1 := Nat.eq_of_beq_eq_true h
        have : b = c.toUInt8 := by
          apply UInt8.toNat_inj.1
          rw [h1]; simp; omega
        simpa using this
    simp only [List.map_cons, indexOf, Lib.indexByte, hbc]
    cases Nat.beq b.toNat c with
    | true => simp
    | false =>
      simp only [Bool.false_eq_true, if_false]
      rw [ih]
      by_cases h1 : Lib.indexByte l c.toUInt8 = -1
      · simp [h1]
      · have : ¬ (Lib.indexByte l c.toUInt8 + 1 = -1) := by omega
        simp [h1, this]; omega

theorem find_noEscape {fn : Func} (hn : fn.name = "internal/abi.NoEscape") (ho : fn.origin = "") : Extern.findNext fn = none ∧ Extern.find fn = some Extern.AbiNoEscape.same := by
  constructor
  · unfold Extern.findNext; rw [hn, ho]; kernel_rfl
  · unfold Extern.find; rw [hn, ho]; kernel_rfl
theorem find_indexByte {fn : Func} (hn : fn.name = "internal/bytealg.IndexByteString") (ho : fn.origin = "") : Extern.findNext fn = none ∧ Extern.find fn = some Extern.BytealgIndexByte.indexByte := by
  constructor
  · unfold Extern.findNext; rw [hn, ho]; kernel_rfl
  · unfold Extern.find; rw [hn, ho]; kernel_rfl

theorem find_count {fn : Func} (hn : fn.name = "internal/bytealg.CountString") (ho : fn.origin = "") : Extern.findNext fn = none ∧ Extern.find fn = some Extern.BytealgCount.count := by
  constructor
  · unfold Extern.findNext; rw [hn, ho]; kernel_rfl
  · unfold Extern.find; rw [hn, ho]; kernel_rfl
theorem countOf_eq (c : Nat) (hc : c < 256) : ∀ (l : List UInt8), countOf c (l.map UInt8.toNat) = Lib.countByte l c.toUInt8
  | [] => rfl
  | b :: l => by
    have ih := countOf_eq c hc l
    have hbc : (b == c.toUInt8) = Nat.beq b.toNat c := by
      rw [Bool.eq_iff_iff]
      constructor
      · intro h
        have h1 : b = c.toUInt8 := by simpa using h
        subst h1
        have h2 : c.toUInt8.toNat = c := by simp; omega
        rw [h2]; exact Nat.beq_refl c
      · intro h
        have h1 := Nat.eq_of_beq_eq_true h
        have : b = c.toUInt8 := by
          apply UInt8.toNat_inj.1
          rw [h1]; simp; omega
        simpa using this
    unfold Lib.countByte at ih ⊢
    rw [List.count_cons, hbc, ← ih]
    simp only [List.map_cons, countOf]
    cases Nat.beq b.toNat c <;> rfl
theorem find_makeNoZero {fn : Func} (hn : fn.name = "internal/bytealg.MakeNoZero") (ho : fn.origin = "") : Extern.findNext fn = none ∧ Extern.find fn = some (Extern.BytealgMakeNoZero.makeNoZero fn.params fn.resultTypes) := by
  constructor
  · unfold Extern.findNext; rw [hn, ho]; kernel_rfl
  · unfold Extern.find; rw [hn, ho]; kernel_rfl

theorem noZero_sim {ρ : Rho} {s s' : St} {w : World} {ps rs : Array TypeId} {args : List IV} {args' : List Value} {v : IV} (hr : Rel P γ ρ s w) (hx : VRs ρ γ args args') (h : noZeroAt P rs args s = .ok v s') :
    Yields P γ ρ s w (Extern.BytealgMakeNoZero.makeNoZero ps rs args'.toArray) v s' := by
  unfold noZeroAt at h
  split at h <;> (try (cases h; done))
  rename_i x
  split at h <;> (try (cases h; done))
  rename_i n hn
  split at h <;> (try (cases h; done))
  rename_i t ht
  split at h <;> (try (cases h; done))
  rename_i e he
  unfold roomFor at h
  split at h <;> (try (cases h; done))
  rename_i hb
  split at h <;> (try (cases h; done))
  rename_i hle
  have hle' := Nat.le_of_ble_eq_true hle
  injection h with hv hs
  subst hv hs
  obtain ⟨hu, hz⟩ := isByte_eq hb
  have hus : P.underlying t = some (.slice e) := by
    unfold sliceT at he
    split at he <;> (try (cases he; done))
    rename_i hd
    cases he
    exact undI_eq hd
  have hrs : rs = #[t] := by apply Array.ext'; simpa using ht
  subst hrs
  cases hx with
  | cons _ x' _ _ hx hl =>
    cases hl
    have hx' : x' = .int .i64 n := by
      unfold IV.nat64 at hn
      split at hn <;> (try (cases hn; done))
      split at hn <;> (try (cases hn; done))
      split at hn <;> (try (cases hn; done))
      cases hn
      cases hx
      rfl
    subst hx'
    obtain ⟨cs, h1, h2, _⟩ := Lib.run_makeNoZero (P := P) w ps t e hus n hle'
    have hd := hr.drawn.drawn
    let p : Pl := ⟨w.heap.size, 0, cs.size * 1, 1⟩
    obtain ⟨g1, g2⟩ := hd.new (p := p) rfl (x := .cells .e 0 e 0 0) (o := .cells cs e) (by
      refine .cells _ _ _ _ _ _ _ (by show 0 + 0 ≤ cs.size * 1; omega) (by show cs.size * 1 ≤ cs.size; omega) (by intro j hj; omega) (by intro j _ _ hj; simp at hj) (fun _ => ⟨.inl rfl, fun _ => rfl⟩) (fun _ => rfl) hz)
    refine ⟨_, _, _, h1, ((Goes.drawn ρ s w).trans (Goes.drawn ρ s _)).trans g2, g1, ?_⟩
    exact .sli s.next 0 n n cs.size 0 p (Rho.with_self _ _ _) (Nat.le_refl _) h2 (.inl rfl) (by show 0 + cs.size * 1 ≤ cs.size * 1; omega)

theorem extern_yields {ρ : Rho} {s s' : St} {f : Nat} {fn : Func} {args : Array Value} {w : World} {e : Array Value → Sem Value} {v : IV} (hf : P.funcs[f]? = some fn) (hb : fn.body = none) (hnm : (fn.name == "runtime.NumGoroutine") = false)
    (hn : Extern.findNext fn = none) (he : Extern.find fn = some e) (hr : Yields P γ ρ s w (e args) v s') : Gives P γ ρ s w (callFunc f args) v s' := by
  obtain ⟨v', w', ρ', h1, h2, h3, h4⟩ := hr
  refine .inl ⟨v', w', ρ', ?_, h2, h3, h4⟩
  unfold callFunc
  simp only [Sem.run_bind, run_program, Result.andThen_ok, hf, hnm, Bool.false_eq_true, if_false, hb, Option.isNone_none, if_true, run_mark, hn, he, h1, Sem.run_pure]

theorem extern_run {f : Nat} {fn : Func} {args : Array Value} {w : World} {e : Array Value → Sem Value} {v : Value} (hf : P.funcs[f]? = some fn) (hb : fn.body = none) (hnm : (fn.name == "runtime.NumGoroutine") = false)
    (hn : Extern.findNext fn = none) (he : Extern.find fn = some e) (hr : (e args).run P w = .ok v w) : (callFunc f args).run P w = .ok (.value v) w := by
  unfold callFunc
  simp only [Sem.run_bind, run_program, Result.andThen_ok, hf, hnm, Bool.false_eq_true, if_false, hb, Option.isNone_none, if_true, run_mark, hn, he, hr, Sem.run_pure]

theorem extern_sim {ρ : Rho} {s s' : St} {w : World} {f : Nat} {fn : Func} {args : List IV} {args' : List Value} {v : IV} (hr : Rel P γ ρ s w) (hf : P.funcs[f]? = some fn) (hb : fn.body = none) (hx : VRs ρ γ args args')
    (h : externI P fn args s = .ok v s') : Gives P γ ρ s w (callFunc f args'.toArray) v s' := by
  unfold externI at h
  cases ho : fn.origin == "" with
  | false => rw [ho] at h; cases h
  | true =>
    rw [ho] at h
    have ho' : fn.origin = "" := by simpa using ho
    simp only at h
    cases hmz : fn.name == "internal/bytealg.MakeNoZero" with
    | true =>
      rw [hmz] at h
      have hn' : fn.name = "internal/bytealg.MakeNoZero" := by simpa using hmz
      obtain ⟨h1, h2⟩ := find_makeNoZero hn' ho'
      exact extern_yields hf hb (by rw [hn']; rfl) h1 h2 (noZero_sim hr hx h)
    | false =>
    rw [hmz] at h
    simp only at h
    unfold externAt at h
    cases hn : fn.name == "internal/abi.NoEscape" with
    | true =>
      rw [hn] at h
      have hn' : fn.name = "internal/abi.NoEscape" := by simpa using hn
      obtain ⟨h1, h2⟩ := find_noEscape hn' ho'
      simp only at h
      split at h <;> (try (cases h; done))
      rename_i x
      cases h
      cases hx with
      | cons _ x' _ _ hx hl =>
        cases hl
        exact .inl ⟨x', w, ρ, extern_run hf hb (by rw [hn']; rfl) h1 h2 rfl, Goes.refl ρ s w, hr, hx⟩
    | false =>
      rw [hn] at h
      simp only at h
      cases hn2 : fn.name == "internal/bytealg.IndexByteString" with
      | false =>
        rw [hn2] at h
        simp only at h
        cases hn3 : fn.name == "internal/bytealg.CountString" with
        | false => rw [hn3] at h; cases h
        | true =>
          rw [hn3] at h
          have hn' : fn.name = "internal/bytealg.CountString" := by simpa using hn3
          obtain ⟨h1, h2⟩ := find_count hn' ho'
          simp only at h
          split at h <;> (try (cases h; done))
          rename_i l c
          split at h <;> (try (cases h; done))
          rename_i hc
          have hc' : c < 256 := by simpa [Nat.blt_eq] using hc
          cases h
          cases hx with
          | cons _ x' _ _ hx hl =>
            cases hl with
            | cons _ y' _ _ hy hl =>
              cases hl
              cases hx with
              | str b _ hb2 =>
                subst hb2
                cases hy
                refine .inl ⟨_, w, ρ, extern_run hf hb (by rw [hn']; rfl) h1 h2 (Lib.run_countString b c w), Goes.refl ρ s w, hr, ?_⟩
                rw [countOf_eq c hc']
                exact .int _ _
      | true =>
        rw [hn2] at h
        have hn' : fn.name = "internal/bytealg.IndexByteString" := by simpa using hn2
        obtain ⟨h1, h2⟩ := find_indexByte hn' ho'
        simp only at h
        split at h <;> (try (cases h; done))
        rename_i l c
        split at h <;> (try (cases h; done))
        rename_i hc
        have hc' : c < 256 := by simpa [Nat.blt_eq] using hc
        cases h
        cases hx with
        | cons _ x' _ _ hx hl =>
          cases hl with
          | cons _ y' _ _ hy hl =>
            cases hl
            cases hx with
            | str b _ hb2 =>
              subst hb2
              cases hy
              refine .inl ⟨_, w, ρ, extern_run hf hb (by rw [hn']; rfl) h1 h2 (Lib.run_indexByteString b c w), Goes.refl ρ s w, hr, ?_⟩
              rw [indexOf_eq c hc']
              have e : (Int.ofNat c).toNat.toUInt8 = c.toUInt8 := rfl
              have : (if Lib.indexByte b.data.toList c.toUInt8 == -1 then -1 else Lib.indexByte b.data.toList c.toUInt8 + ((0 : Nat) : Int)) = Lib.indexByte b.data.toList c.toUInt8 := by
                by_cases h1 : Lib.indexByte b.data.toList c.toUInt8 = -1
                · simp [h1]
                · simp [h1]
              rw [this]
              exact .int _ _

/-- A call of a function by its number. -/
def CallOk (P : Program) (γ : Gam) (m : Array Value → Sem Next) (g : Ext → Rec → List IV → St → KV → R) : Prop := ∀ X rec, ExtOk P γ X → RecOk P γ rec → ∀ args s k v1 s1, g X rec args s k = .ok v1 s1 →
  ∃ v s', k v s' = .ok v1 s1 ∧ ∀ (ρ : Rho) (w : World) args', Rel P γ ρ s w → Glob P ρ → VRs ρ γ args args' → Gives P γ ρ s w (m args'.toArray) v s'

theorem funT_ok (f : Nat) {g} (hg : funT P f = .mk g) : CallOk P γ (callFunc f) g := by
  intro X rec hX hrec args s k v1 s1 h
  unfold funT at hg
  cases hf : funI P f with
  | none => rw [hf] at hg; cases hg; cases h
  | some fn =>
    rw [hf] at hg
    simp only at hg
    have hf' := funI_eq hf
    cases hb : fn.body with
    | some c =>
      rw [hb] at hg
      simp only at hg
      cases hnm : fn.name == "runtime.NumGoroutine" with
      | true => rw [hnm] at hg; cases hg; cases h
      | false =>
        rw [hnm] at hg
        cases hg
        have hrun : ∀ (args : Array Value) (w : World), (callFunc f args).run P w = .ok (.enter f args) w := by
          intro args w
          unfold callFunc
          simp only [Sem.run_bind, run_program, Result.andThen_ok, hf', hnm, Bool.false_eq_true, if_false, hb, Option.isNone_some, Sem.run_pure]
        unfold callX at h
        dsimp only at h
        cases hx : X.get f args s with
        | some r =>
          rw [hx] at h
          simp only at h
          obtain ⟨v, s', rfl, h2⟩ := bind_ok h
          exact ⟨v, s', h2, fun ρ w args' hr hgl hv => .inr (.inr ⟨f, _, w, hrun _ _, hX f args s v s' hx ρ w args' hr hgl hv⟩)⟩
        | none =>
          rw [hx] at h
          simp only at h
          obtain ⟨v, s', h1, h2⟩ := hrec f args s k v1 s1 h
          exact ⟨v, s', h1, fun ρ w args' hr hgl hv => .inr (.inr ⟨f, _, w, hrun _ _, h2 ρ w args' hr hgl hv⟩)⟩
    | none =>
      rw [hb] at hg
      cases hg
      obtain ⟨v, s', h1, h2⟩ := bind_ok h
      exact ⟨v, s', h2, fun ρ w args' hr hgl hv => extern_sim hr hf' hb hv h1⟩

theorem callF_ok (f : Nat) : CallOk P γ (callFunc f) (fun X rec args s k => callF P X rec f args s k) := by
  intro X rec hX hrec args s k v1 s1 h
  unfold callF at h
  split at h
  rename_i g hg
  exact funT_ok f hg X rec hX hrec args s k v1 s1 h

theorem receiver_run {xt : Nat} {v : Value} {p : Bool} {nm : Option String} {w : World} (h : if p then ptrT P xt = true else plainT P xt = true) : (receiverAt xt (.val v) p nm).run P w = .ok v w := by
  cases p with
  | true =>
    simp only [if_true] at h
    unfold ptrT at h
    split at h <;> (try (cases h; done))
    rename_i e hu
    unfold receiverAt
    simp only [Sem.run_bind, run_underlying (undI_eq hu), Result.andThen_ok, Place.get, Sem.run_pure]
  | false =>
    simp only [Bool.false_eq_true, if_false] at h
    unfold plainT at h
    split at h <;> first
      | (rename_i hu
         unfold receiverAt
         simp only [Sem.run_bind, run_underlying (undI_eq hu), Result.andThen_ok, Place.get, Sem.run_pure]; done)
      | (cases h; done)

theorem method_run {t f : Nat} {name : String} {v : Value} {w : World} (h : methodOf P t name = some f) : (method (P.types.size + Made.depth) t v name).run P w = .ok (f, v) w := by
  obtain ⟨d, hd⟩ : ∃ d, P.types.size + Made.depth = d + 1 := ⟨_, rfl⟩
  rw [hd]
  unfold methodOf at h
  cases hi : infoI P t with
  | none => rw [hi] at h; cases h
  | some i =>
    rw [hi] at h
    simp only at h
    split at h <;> (try (cases h; done))
    rename_i m0 m1 f' p hfind
    have hp : f' = f ∧ (if p then ptrT P t = true else plainT P t = true) := by
      cases p with
      | true =>
        simp only at h
        cases hq : ptrT P t with
        | true => rw [hq] at h; cases h; exact ⟨rfl, rfl⟩
        | false => rw [hq] at h; cases h
      | false =>
        simp only at h
        cases hq : plainT P t with
        | true => rw [hq] at h; cases h; exact ⟨rfl, rfl⟩
        | false => rw [hq] at h; cases h
    obtain ⟨rfl, hp⟩ := hp
    unfold method
    simp only [Sem.run_bind, run_typeInfo (infoI_eq hi), Result.andThen_ok, hfind, follow, Sem.run_pure, receiver_run hp]

theorem callMethod_run {t f : Nat} {name : String} {v : Value} {args : Array Value} {w : World} (h : methodOf P t name = some f) :
    (callMethod (.iface t v) name args).run P w = (callFunc f (#[v] ++ args)).run P w := by
  unfold callMethod
  simp only [Sem.run_bind, run_program, Result.andThen_ok, method_run h]

/-- What runs alike gives alike. -/
theorem Gives.congr {ρ : Rho} {s s' : St} {w : World} {m m' : Sem Next} {v : IV} (h : Gives P γ ρ s w m v s') (e : m'.run P w = m.run P w) : Gives P γ ρ s w m' v s' := by
  unfold Gives at h ⊢; rw [e]; exact h

theorem callM_ok (t : Nat) (name : String) (v0 : IV) : ∀ X rec, ExtOk P γ X → RecOk P γ rec → ∀ args s k v1 s1, callM P X rec t name v0 args s k = .ok v1 s1 →
    ∃ v s', k v s' = .ok v1 s1 ∧ ∀ (ρ : Rho) (w : World) v0' args', Rel P γ ρ s w → Glob P ρ → VR ρ γ v0 v0' → VRs ρ γ args args' → Gives P γ ρ s w (callMethod (.iface t v0') name args'.toArray) v s' := by
  intro X rec hX hrec args s k v1 s1 h
  unfold callM at h
  split at h <;> (try (cases h; done))
  rename_i f hf
  obtain ⟨v, s', h1, h2⟩ := callF_ok f X rec hX hrec _ s k v1 s1 h
  refine ⟨v, s', h1, fun ρ w v0' args' hr hg hv hs => ?_⟩
  refine (h2 ρ w (v0' :: args') hr hg (.cons _ _ _ _ hv hs)).congr ?_
  rw [callMethod_run hf]
  have e : #[v0'] ++ args'.toArray = (v0' :: args').toArray := by apply Array.ext'; simp
  rw [e]

theorem head_args (x : Value) (l : Array Value) : (#[x] ++ l)[0]? = some x := by rw [Array.getElem?_append_left (show 0 < (#[x] : Array Value).size from Nat.zero_lt_one)]; rfl
theorem tail_args (x : Value) (l : Array Value) : (#[x] ++ l).extract 1 (#[x] ++ l).size = l := by
  obtain ⟨l⟩ := l
  apply Array.ext'
  simp [List.extract_eq_take_drop]
theorem invoke_method {name : String} {cap args : Array Value} {r : Value} {w : World} (h : args[0]? = some r) : (invoke (.fn (.method name) cap) args).run P w = (callMethod r name (args.extract 1 args.size)).run P w := by
  unfold invoke; simp only [h]

section ops
variable {n : Nat}

theorem callee_mem (c : Call) : ∀ x ∈ c.args.toList, x ∈ (Op.call c).operands.toList := by
  intro x hx
  simp only [Op.operands, Call.operands, Array.toList_append, List.mem_append]
  exact .inr hx

theorem run_resolve {c : Call} {a : Go.Act} {o : Oper} {d : Deferred} (w : World) (ho : o.op = .call c) (hd : (resolve a.eval c o.type).run P w = .ok d w) : (execOp a.eval o).run P w = (invoke d.target d.args).run P w := by
  simp only [execOp, ho, Sem.run_bind, hd, Result.andThen_ok]

theorem callI_ok (c : Call) (r : Operand) (name : String) (hc : c.callee = .invoke r name) : ActOk P γ n (.call c) (xCallI P n r name c.args.toList) := by
  unfold xCallI
  split <;> try exact actOk_no
  rename_i as has
  split <;> try exact actOk_no
  rename_i f hf
  intro fa hfa X rec hX hrec env s k v1 s1 h
  cases hfa
  dsimp only at h
  unfold callI at h
  split at h <;> (try (cases h; done))
  rename_i t v0 hv0
  obtain ⟨v, s', h1, h2⟩ := callM_ok t name v0 X rec hX hrec _ s k v1 s1 h
  refine ⟨v, s', h1, fun ρ w a o ho hr hg hops => ?_⟩
  have hrv := hops r (by simp [Op.operands, Call.operands, hc]) f hf
  rw [hv0] at hrv
  have hargs := OpsR.evs (fun x hx => hops x (callee_mem c x hx)) has
  generalize hev : a.eval r = rv at hrv
  cases hrv
  rename_i v0' hv0'
  have hd : (resolve a.eval c o.type).run P w = .ok { target := .fn (.method name) #[], args := #[a.eval r] ++ c.args.map a.eval } w := by
    unfold resolve; simp only [hc, Sem.run_pure]
  refine (h2 ρ w v0' _ hr hg hv0' hargs).congr ?_
  rw [run_resolve w ho hd, hev]
  show (invoke (.fn (.method name) #[]) (#[Value.iface t v0'] ++ c.args.map a.eval)).run P w = _
  rw [invoke_method (head_args _ _), tail_args]
  rw [show c.args.map a.eval = (c.args.toList.map a.eval).toArray from by apply Array.ext'; simp]

theorem callV_ok (c : Call) (f0 : Operand) (hc : c.callee = .value f0) : ActOk P γ n (.call c) (xCallV P n f0 c.args.toList) := by
  unfold xCallV
  split <;> try exact actOk_no
  rename_i as has
  have hargs : ∀ {ρ : Rho} {env : Env} {a : Go.Act}, OpsR P γ n ρ env a (Op.call c).operands.toList → VRs ρ γ (as env) (c.args.toList.map a.eval) :=
    fun hops => OpsR.evs (fun x hx => hops x (callee_mem c x hx)) has
  have hmem : f0 ∈ (Op.call c).operands.toList := by simp [Op.operands, Call.operands, hc]
  have hd : ∀ (a : Go.Act) (o : Oper) (w : World) (fn : Fn) (first captured : Array Value), a.eval f0 = .func fn first captured → (resolve a.eval c o.type).run P w = .ok { target := .fn fn captured, args := first ++ c.args.map a.eval } w := by
    intro a o w fn first captured he
    unfold resolve; simp only [hc, he, Deferred.ofValue, Sem.run_pure]
  split
  · rename_i f
    split
    rename_i g hg
    intro fa hfa X rec hX hrec env s k v1 s1 h
    cases hfa
    dsimp only at h
    obtain ⟨v, s', h1, h2⟩ := funT_ok f hg X rec hX hrec _ s k v1 s1 h
    refine ⟨v, s', h1, fun ρ w a o ho hr hgl hops => ?_⟩
    refine (h2 ρ w _ hr hgl (hargs hops)).congr ?_
    rw [run_resolve w ho (hd a o w (.func f) #[] #[] rfl)]
    show (callFunc f ((#[] ++ c.args.map a.eval) ++ #[])).run P w = _
    congr 2
    apply Array.ext'; simp
  · split <;> try exact actOk_no
    rename_i fe hfe
    intro fa hfa X rec hX hrec env s k v1 s1 h
    cases hfa
    dsimp only at h
    unfold callV at h
    split at h <;> (try (cases h; done))
    rename_i fn first cap hfv
    split at h <;> (try (cases h; done))
    · rename_i f
      obtain ⟨v, s', h1, h2⟩ := callF_ok f X rec hX hrec _ s k v1 s1 h
      refine ⟨v, s', h1, fun ρ w a o ho hr hgl hops => ?_⟩
      have hfr := hops f0 hmem fe hfe
      rw [hfv] at hfr
      generalize hev : a.eval f0 = rv at hfr
      cases hfr
      rename_i first' cap' hy hfst hcap
      refine (h2 ρ w _ hr hgl ((hfst.append (hargs hops)).append hcap)).congr ?_
      rw [run_resolve w ho (hd a o w _ _ _ hev)]
      show (callFunc f ((first' ++ c.args.map a.eval) ++ cap')).run P w = _
      congr 2
      apply Array.ext'; simp
    · rename_i name
      split at h <;> (try (cases h; done))
      rename_i t v0
      obtain ⟨v, s', h1, h2⟩ := callM_ok t name v0 X rec hX hrec _ s k v1 s1 h
      refine ⟨v, s', h1, fun ρ w a o ho hr hgl hops => ?_⟩
      have hfr := hops f0 hmem fe hfe
      rw [hfv] at hfr
      generalize hev : a.eval f0 = rv at hfr
      cases hfr
      rename_i first' cap' hy hfst hcap
      obtain ⟨l⟩ := first'
      cases hfst with
      | cons _ x' _ _ hx hl =>
        cases hl
        cases hx
        rename_i v0' hv0'
        refine (h2 ρ w v0' _ hr hgl hv0' (hargs hops)).congr ?_
        rw [run_resolve w ho (hd a o w _ _ _ hev)]
        show (invoke (.fn (.method name) cap') (#[Value.iface t v0'] ++ c.args.map a.eval)).run P w = _
        rw [invoke_method (head_args _ _), tail_args]
        rw [show c.args.map a.eval = (c.args.toList.map a.eval).toArray from by apply Array.ext'; simp]

theorem call_ok (c : Call) : ActOk P γ n (.call c) (xCall P n c) := by
  unfold xCall
  split
  · rename_i b hb; exact builtin_ok c b hb
  · rename_i f hf; exact callV_ok c f hf
  · rename_i r name hr; exact callI_ok c r name hr

/-- Every operation. -/
theorem exec_ok (op : Op) : ActOk P γ n op (execT P n op) := by
  cases op
  case pick c a b => exact pick_ok c a b
  all_goals first
    | exact actOk_no
    | exact move_ok _ _ (.inl rfl)
    | exact move_ok _ _ (.inr rfl)
    | exact alloc_ok _
    | exact box_ok _ _
    | exact build_ok _ _
    | exact buildSlice_ok _ _ _
    | exact load_ok _ _
    | exact store_ok _ _ _
    | exact nil_ok _
    | exact bin_ok _ _ _ _ _
    | exact un_ok _ _ _
    | exact conv_ok _ _ _
    | exact iface_ok _ _
    | exact func_ok _ _ _
    | exact makeSlice_ok _ _ _
    | exact slice_ok _ _ _ _ _
    | exact fieldAddr_ok _ _ _
    | exact field_ok _ _ _
    | exact indexAddr_ok _ _ _
    | exact index_ok _ _ _
    | exact range_ok _ _
    | exact makeMap_ok _ _
    | exact lookup_ok _ _ _ _
    | exact update_ok _ _ _ _ _ (.inl rfl)
    | exact update_ok _ _ _ _ _ (.inr rfl)
    | exact entry_ok _ _ _
    | exact entryStore_ok _ _ _ _
    | exact next_ok _ _
    | exact assert_ok _ _ _ _
    | exact extract_ok _ _
    | exact call_ok _
end ops
end Go.Eng
end
section
set_option linter.constructorNameAsVariable false
set_option linter.unusedVariables false
set_option linter.unusedSimpArgs false
namespace Go.Eng
variable {P : Program} {γ : Gam}

/-- The temporaries, here and there. -/
structure ER (γ : Gam) (n : Nat) (ρ : Rho) (env : Env) (a : Go.Act) : Prop where
  size : a.tmps.size = n
  defers : a.defers = []
  slots : ∀ t f g, slotT n t = .mk f g → VR ρ γ (f env) (a.tmps.getD t undef)

theorem ER.mono {n : Nat} {ρ ρ' : Rho} {env : Env} {a : Go.Act} (h : ER γ n ρ env a) (hl : Le ρ ρ') : ER γ n ρ' env a := ⟨h.size, h.defers, fun t f g hs => (h.slots t f g hs).mono hl⟩

theorem ev_const {n : Nat} {ρ : Rho} {env : Env} {a : Go.Act} {v : Value} : OpR P γ n ρ env a (.const v) := by
  intro f hf
  change (match ofValue v with | some x => Ev.mk fun _ => x | none => Ev.no) = Ev.mk f at hf
  split at hf <;> (try (cases hf; done))
  rename_i x hx
  cases hf
  exact VR.ofValue hx
theorem ev_global {n : Nat} {ρ : Rho} {env : Env} {a : Go.Act} {g : Nat} (hg : Glob P ρ) : OpR P γ n ρ env a (.global g) := by
  intro f hf
  cases hf
theorem ev_func {n : Nat} {ρ : Rho} {env : Env} {a : Go.Act} {g : Nat} : OpR P γ n ρ env a (.func g) := by
  intro f hf
  cases hf
  exact .fn _ _ _ _ _ rfl .nil .nil
theorem ev_tmp {n : Nat} {ρ : Rho} {env : Env} {a : Go.Act} {t : Nat} (h : ∀ f g, slotT n t = .mk f g → VR ρ γ (f env) (a.tmps.getD t undef)) : OpR P γ n ρ env a (.tmp t) := by
  intro f hf
  change evSlot (slotT n t) = Ev.mk f at hf
  cases hs : slotT n t with
  | no => rw [hs] at hf; cases hf
  | mk f' g' => rw [hs] at hf; cases hf; exact h _ _ hs

theorem ER.op {n : Nat} {ρ : Rho} {env : Env} {a : Go.Act} (h : ER γ n ρ env a) (hg : Glob P ρ) (x : Operand) : OpR P γ n ρ env a x := by
  cases x with
  | tmp t => exact ev_tmp (h.slots t)
  | const v => exact ev_const
  | global g => exact ev_global hg
  | func f => exact ev_func
theorem ER.ops {n : Nat} {ρ : Rho} {env : Env} {a : Go.Act} (h : ER γ n ρ env a) (hg : Glob P ρ) (l : List Operand) : OpsR P γ n ρ env a l := fun x _ => h.op hg x

theorem getD_put {a : Go.Act} {d t : Nat} {v : Value} (hd : d < a.tmps.size) : (a.put (some d) v).tmps.getD t undef = if t = d then v else a.tmps.getD t undef := by
  simp only [Act.put, Array.getD_eq_getD_getElem?, Array.getElem?_setIfInBounds]
  by_cases h : d = t
  · subst h; simp [hd]
  · simp [h, Ne.symm h]

theorem outT_inv {n : Nat} {dst : Option Nat} {g : IV → Env → Env} (h : outT n dst = .mk g) : (dst = none ∧ g = fun _ env => env) ∨ ∃ d f, dst = some d ∧ slotT n d = .mk f g := by
  unfold outT at h
  cases dst with
  | none => cases h; exact .inl ⟨rfl, rfl⟩
  | some d =>
    simp only at h
    cases hs : slotT n d with
    | no => rw [hs] at h; cases h
    | mk f g' => rw [hs] at h; cases h; exact .inr ⟨d, f, rfl, hs⟩

theorem ER.put {n : Nat} {ρ ρ' : Rho} {env : Env} {a : Go.Act} {dst : Option Nat} {g : IV → Env → Env} {v : IV} {v' : Value} (h : ER γ n ρ env a) (hl : Le ρ ρ') (hd : outT n dst = .mk g) (hv : VR ρ' γ v v') : ER γ n ρ' (g v env) (a.put dst v') := by
  rcases outT_inv hd with ⟨rfl, rfl⟩ | ⟨d, f, rfl, hs⟩
  · exact h.mono hl
  · have hdn := slot_lt hs
    refine ⟨by simp [Act.put, h.size], h.defers, fun t f' g' hs' => ?_⟩
    rw [slot_put hs hs', getD_put (by rw [h.size]; exact hdn)]
    by_cases e : t = d
    · simp only [e, if_true]; exact hv
    · simp only [e, if_false]; exact (h.slots t f' g' hs').mono hl

/- guards -/
def boolOf : Value → Option Bool
  | .bool c => some c
  | _ => none
theorem guardR_inv {b : Bool} {v : IV} {skip run : R} {v1 : IV} {s1 : St} (h : guardR b v skip run = .ok v1 s1) : (∀ k, v ≠ .sym k) ∧ Bool.rec (motive := fun _ => R) skip run (wantedV b v) = .ok v1 s1 := by
  cases v <;> first
    | exact ⟨fun k e => (by cases e), h⟩
    | (cases h)
theorem onBool_rel {ρ : Rho} {v : IV} {v' : Value} (h : VR ρ γ v v') (hn : ∀ k, v ≠ .sym k) (b : Bool) : wantedV b v = (boolOf v' == some b) := by
  unfold wantedV
  cases h <;> first
    | (rename_i k hk hki hks; exact absurd rfl (hn k))
    | (rename_i c; cases c <;> cases b <;> rfl)
    | (cases b <;> rfl)

theorem nth_getElem? {α : Type} (l : List α) (k : Nat) : nth l k = l[k]? := nth_eq l k

theorem guard_sim {n : Nat} {ρ : Rho} {env : Env} {a : Go.Act} {ops : Array Oper} {o : Oper} (hsz : a.tmps.size = n) (hslot : ∀ j b t f g, o.guard = some (j, b) → (∃ oj, ops[j]? = some oj ∧ oj.dst = some t) → slotT n t = .mk f g → VR ρ γ (f env) (a.tmps.getD t undef)) :
    match guardT n ops.toList o.guard with
    | .free => Region.wanted o (yielded ops a.tmps) = true
    | .never => Region.wanted o (yielded ops a.tmps) = false
    | .mk c b => (∀ k, c env ≠ .sym k) → Region.wanted o (yielded ops a.tmps) = wantedV b (c env)
    | .no => True := by
  unfold guardT
  cases hg : o.guard with
  | none => simp only; unfold Region.wanted; rw [hg]
  | some jb =>
    obtain ⟨j, b⟩ := jb
    simp only
    have hgo : guardOf ops.toList j = (ops[j]?).bind (·.dst) := by
      unfold guardOf
      rw [nth_getElem?, Array.getElem?_toList]
      cases ops[j]? <;> rfl
    rw [hgo]
    cases hb : (ops[j]?).bind (·.dst) with
    | none =>
      simp only
      unfold Region.wanted yielded
      simp only [hg, hb, Option.bind_none]
      rfl
    | some t =>
      simp only
      unfold gdSlot
      cases hs : slotT n t with
      | no => trivial
      | mk f g =>
        simp only
        have ht := slot_lt hs
        have hoj : ∃ oj, ops[j]? = some oj ∧ oj.dst = some t := by
          cases ho : ops[j]? with
          | none => rw [ho] at hb; cases hb
          | some oj => rw [ho] at hb; exact ⟨oj, rfl, hb⟩
        have hv := hslot j b t f g hg hoj hs
        intro hns
        rw [onBool_rel hv hns b]
        unfold Region.wanted yielded
        simp only [hg, hb, Option.bind_some]
        have e : a.tmps[t]? = some (a.tmps.getD t undef) := by
          rw [Array.getD_eq_getD_getElem?, Array.getElem?_eq_getElem (by omega)]; rfl
        rw [e]
        generalize a.tmps.getD t undef = q
        cases q <;> rfl

/-- From here to there. -/
def Moves (P : Program) (γ : Gam) (n : Nat) (s : St) (env : Env) (s' : St) (env' : Env) (W : (Exit → Go.Act → World → Prop) → Go.Act → World → Prop) : Prop :=
  ∀ ρ w a, Rel P γ ρ s w → Glob P ρ → ER γ n ρ env a → ∀ Q : Exit → Go.Act → World → Prop, (∀ ρ' w' a', Goes ρ s w ρ' s' w' → Rel P γ ρ' s' w' → ER γ n ρ' env' a' → Q .normal a' w') → W Q a w

/-- One operation with its guard. -/
theorem opT_ok {n : Nat} {ops : Array Oper} {o : Oper} {i : Nat} (ho : ops[i]? = some o) {f} (hf : opT P n ops.toList o = .mk f) {X : Ext} {rec : Rec} (hX : ExtOk P γ X) (hrec : RecOk P γ rec) {env : Env} {s : St} {k : KE} {v1 : IV} {s1 : St}
    (h : f X rec env s k = .ok v1 s1) : ∃ env' s', k env' s' = .ok v1 s1 ∧
      ∀ ρ w a, Rel P γ ρ s w → Glob P ρ → ER γ n ρ env a → ∀ (K : Go.Act → World → Prop) (Q : Exit → Go.Act → World → Prop), (∀ ρ' w' a', Goes ρ s w ρ' s' w' → Rel P γ ρ' s' w' → ER γ n ρ' env' a' → K a' w') → wpOp P ops Q i K a w := by
  unfold opT at hf
  cases hx : execT P n o.op with
  | mk fa =>
    rw [hx] at hf
    simp only at hf
    cases hout : outT n o.dst with
    | no => rw [hout] at hf; cases hf; cases h
    | mk g =>
      rw [hout] at hf
      simp only at hf
      have hact := exec_ok (P := P) (γ := γ) (n := n) o.op fa hx X rec hX hrec
      have hgd : ∀ {ρ : Rho} {a : Go.Act}, ER γ n ρ env a → _ := fun {ρ a} hE => guard_sim (γ := γ) (ρ := ρ) (env := env) (o := o) (ops := ops) hE.size (fun j b t f g _ _ hs => hE.slots t f g hs)
      -- it is run
      have run : ∀ k', fa X rec env s k' = .ok v1 s1 → (∀ v s, k' v s = k (g v env) s) → (∀ {ρ : Rho} {a : Go.Act}, ER γ n ρ env a → Region.wanted o (yielded ops a.tmps) = true) → ∃ env' s', k env' s' = .ok v1 s1 ∧
          ∀ ρ w a, Rel P γ ρ s w → Glob P ρ → ER γ n ρ env a → ∀ (K : Go.Act → World → Prop) (Q : Exit → Go.Act → World → Prop), (∀ ρ' w' a', Goes ρ s w ρ' s' w' → Rel P γ ρ' s' w' → ER γ n ρ' env' a' → K a' w') → wpOp P ops Q i K a w := by
        intro k' hk' hkk hw
        obtain ⟨v, s', h1, h2⟩ := hact env s k' v1 s1 hk'
        rw [hkk] at h1
        refine ⟨g v env, s', h1, fun ρ w a hr hg hE K Q hK => ?_⟩
        unfold wpOp
        simp only [ho, hw hE, if_true]
        refine .inl ((h2 ρ w a o rfl hr hg (hE.ops hg _)).wp ?_)
        intro ρ' w' v' q1 q2 q3
        exact hK ρ' w' _ q1 q2 (hE.put q1.le hout q3)
      -- it is passed over
      have skip : k (g undefI env) s = .ok v1 s1 → (∀ {ρ : Rho} {a : Go.Act}, ER γ n ρ env a → Region.wanted o (yielded ops a.tmps) = false) → ∃ env' s', k env' s' = .ok v1 s1 ∧
          ∀ ρ w a, Rel P γ ρ s w → Glob P ρ → ER γ n ρ env a → ∀ (K : Go.Act → World → Prop) (Q : Exit → Go.Act → World → Prop), (∀ ρ' w' a', Goes ρ s w ρ' s' w' → Rel P γ ρ' s' w' → ER γ n ρ' env' a' → K a' w') → wpOp P ops Q i K a w := by
        intro hk hw
        refine ⟨_, s, hk, fun ρ w a hr hg hE K Q hK => ?_⟩
        unfold wpOp
        simp only [ho, hw hE, Bool.false_eq_true, if_false]
        exact hK ρ w _ (Goes.refl ρ s w) hr (hE.put (Le.refl ρ) hout (.tup [] #[] .nil))
      cases hgt : guardT n ops.toList o.guard with
      | free =>
        rw [hgt] at hf; cases hf
        exact run _ h (fun _ _ => rfl) (fun hE => by have := hgd hE; rw [hgt] at this; exact this)
      | never =>
        rw [hgt] at hf; cases hf
        exact skip h (fun hE => by have := hgd hE; rw [hgt] at this; exact this)
      | mk c b =>
        rw [hgt] at hf; cases hf
        obtain ⟨hns, h⟩ := guardR_inv h
        cases hw : wantedV b (c env) with
        | false =>
          rw [hw] at h
          exact skip h (fun hE => by have := hgd hE; rw [hgt] at this; rw [this hns, hw])
        | true =>
          rw [hw] at h
          exact run _ h (fun _ _ => rfl) (fun hE => by have := hgd hE; rw [hgt] at this; rw [this hns, hw])
      | no => rw [hgt] at hf; cases hf; cases h

theorem opsT_ok {n : Nat} {ops : Array Oper} {X : Ext} {rec : Rec} (hX : ExtOk P γ X) (hrec : RecOk P γ rec) : ∀ (l : List Oper) (j : Nat), (∀ i, l[i]? = ops[j + i]?) → ∀ {f}, opsT P n ops.toList l = .mk f → ∀ {env : Env} {s : St} {k : KE} {v1 : IV} {s1 : St},
    f X rec env s k = .ok v1 s1 → ∃ env' s', k env' s' = .ok v1 s1 ∧ Moves P γ n s env s' env' (fun Q a w => wpOps P ops Q (List.range' j l.length) a w)
  | [], j, _, f, hf, env, s, k, v1, s1, h => by
    cases hf
    exact ⟨env, s, h, fun ρ w a hr hg hE Q hQ => hQ ρ w a (Goes.refl ρ s w) hr hE⟩
  | o :: l, j, hl, f, hf, env, s, k, v1, s1, h => by
    unfold opsT at hf
    cases h1 : opT P n ops.toList o with
    | mk fo =>
      rw [h1] at hf
      simp only at hf
      cases h2 : opsT P n ops.toList l with
      | mk fs =>
        rw [h2] at hf
        cases hf
        have ho : ops[j]? = some o := by simpa using (hl 0).symm
        obtain ⟨env', s', q1, q2⟩ := opT_ok ho h1 hX hrec h
        obtain ⟨env'', s'', q3, q4⟩ := opsT_ok hX hrec l (j + 1) (fun i => by have := hl (i + 1); simpa [Nat.add_assoc, Nat.add_comm 1 i] using this) h2 q1
        refine ⟨env'', s'', q3, fun ρ w a hr hg hE Q hQ => ?_⟩
        show wpOps P ops Q (List.range' j (l.length + 1)) a w
        rw [List.range'_succ, wpOps_cons]
        refine q2 ρ w a hr hg hE _ Q ?_
        intro ρ' w' a' g1 g2 g3
        exact q4 ρ' w' a' g2 (hg.mono g1.le) g3 Q (fun ρ'' w'' a'' m1 m2 m3 => hQ ρ'' w'' a'' (g1.trans m1) m2 m3)
end Go.Eng
end
section
set_option linter.constructorNameAsVariable false
set_option linter.unusedVariables false
set_option linter.unusedSimpArgs false
namespace Go.Eng
variable {P : Program} {γ : Gam}

/-- The rounds of a loop, from the head of one on. -/
def LoopWp (P : Program) (c : Code) (Q : Exit → Go.Act → World → Prop) (a : Go.Act) (w : World) : Prop :=
  ∀ (b : Frame) (k : List Item) (cs : List Frame), ∃ e a' w', Q e a' w' ∧ Arrives P (lone (b.at a (.code c :: .inLoop c :: k)) cs w) b k cs e a' w'

theorem loop_of {c : Code} {Q : Exit → Go.Act → World → Prop} {a : Go.Act} {w : World} (h : LoopWp P c Q a w) : (Code.loop c).wp P Q a w := fun b k cs =>
  let ⟨e, a', w', hq, harr⟩ := h b k cs; ⟨e, a', w', hq, .of_steps (.one step_loop) harr⟩

theorem loop_round {c : Code} {Q : Exit → Go.Act → World → Prop} {a : Go.Act} {w : World} (h : c.wp P (Exit.then (LoopWp P c Q) Q) a w) : LoopWp P c Q a w := by
  intro b k cs
  obtain ⟨e, a₁, w₁, hq, harr⟩ := h b (.inLoop c :: k) cs
  cases e with
  | normal =>
    obtain ⟨e₂, a₂, w₂, hq₂, harr₂⟩ := hq b k cs
    exact ⟨e₂, a₂, w₂, hq₂, .of_steps (Steps.trans harr (.one step_inLoop)) harr₂⟩
  | exit id => exact ⟨_, a₁, w₁, hq, .pass (x := .inLoop c) rfl (fun _ _ => .inl (by simp)) harr⟩
  | goto l => exact ⟨_, a₁, w₁, hq, .pass (x := .inLoop c) rfl (fun _ _ => .inl (by simp)) harr⟩
  | ret => exact ⟨_, a₁, w₁, hq, .pass (x := .inLoop c) rfl (fun _ _ => .inl (by simp)) harr⟩
  | panic ch => exact ⟨_, a₁, w₁, hq, .pass (x := .inLoop c) rfl (fun _ _ => .inl (by simp)) harr⟩
  | outgrown => exact ⟨_, a₁, w₁, hq, .pass (x := .inLoop c) rfl (fun _ _ => .inl (by simp)) harr⟩

/-- What is left of a scope. -/
def ScopeWp (P : Program) (body c : Code) (Q : Exit → Go.Act → World → Prop) (a : Go.Act) (w : World) : Prop :=
  ∀ (b : Frame) (k : List Item) (cs : List Frame), ∃ e a' w', Q e a' w' ∧ Arrives P (lone (b.at a (.code c :: .inScope body :: k)) cs w) b k cs e a' w'

theorem scope_of {c : Code} {Q : Exit → Go.Act → World → Prop} {a : Go.Act} {w : World} (h : ScopeWp P c c Q a w) : (Code.scope c).wp P Q a w := fun b k cs =>
  let ⟨e, a', w', hq, harr⟩ := h b k cs; ⟨e, a', w', hq, .of_steps (.one step_scope) harr⟩

def inScopeQ (P : Program) (body : Code) (Q : Exit → Go.Act → World → Prop) : Exit → Go.Act → World → Prop
  | .goto l, a, w => match findLabel body l with
    | some rest => ScopeWp P body rest Q a w
    | none => Q (.goto l) a w
  | e, a, w => Q e a w

theorem scope_round {body c : Code} {Q : Exit → Go.Act → World → Prop} {a : Go.Act} {w : World} (h : c.wp P (inScopeQ P body Q) a w) : ScopeWp P body c Q a w := by
  intro b k cs
  obtain ⟨e, a₁, w₁, hq, harr⟩ := h b (.inScope body :: k) cs
  cases e with
  | normal => exact ⟨.normal, a₁, w₁, hq, Steps.trans harr (.one step_inScope)⟩
  | exit id => exact ⟨.exit id, a₁, w₁, hq, fun k' hk => harr k' (by simp [exitTo, hk])⟩
  | goto l =>
    cases hl : findLabel body l with
    | none =>
      simp only [inScopeQ, hl] at hq
      exact ⟨.goto l, a₁, w₁, hq, fun k' hk => harr k' (by simp [gotoIn, hl, hk])⟩
    | some rest =>
      simp only [inScopeQ, hl] at hq
      obtain ⟨e₂, a₂, w₂, hq₂, harr₂⟩ := hq b k cs
      exact ⟨e₂, a₂, w₂, hq₂, .of_steps (harr _ (by simp [gotoIn, hl])) harr₂⟩
  | ret => exact ⟨_, a₁, w₁, hq, harr⟩
  | panic ch => exact ⟨_, a₁, w₁, hq, harr⟩
  | outgrown => exact ⟨_, a₁, w₁, hq, harr⟩

def exOf : Ex → Exit
  | .normal => .normal
  | .exit i => .exit i
  | .goto l => .goto l
  | .ret => .ret
def goOn (kn : KE) (kx : KX) : Ex → Env → St → R
  | .normal => kn
  | e => kx e

/-- A piece of code, from here to there. -/
def Ends (P : Program) (γ : Gam) (n : Nat) (s : St) (env : Env) (kn : KE) (kx : KX) (v1 : IV) (s1 : St) (W : (Exit → Go.Act → World → Prop) → Go.Act → World → Prop) : Prop :=
  ∃ e env' s', goOn kn kx e env' s' = .ok v1 s1 ∧ ∀ ρ w a, Rel P γ ρ s w → Glob P ρ → ER γ n ρ env a → ∀ Q : Exit → Go.Act → World → Prop,
    (∀ ρ' w' a', Goes ρ s w ρ' s' w' → Rel P γ ρ' s' w' → ER γ n ρ' env' a' → Q (exOf e) a' w') → W Q a w

structure RunsOk (P : Program) (γ : Gam) (r : Runs) : Prop where
  l : ∀ n b env s kn kx v1 s1, r.l n b env s kn kx = .ok v1 s1 → Ends P γ n s env kn kx v1 s1 (LoopWp P b)
  s : ∀ n b c env s kn kx v1 s1, r.s n b c env s kn kx = .ok v1 s1 → Ends P γ n s env kn kx v1 s1 (ScopeWp P b c)
  f : RecOk P γ r.f

/-- Regions that draw their order. -/
def DrawnOk (P : Program) (γ : Gam) : Prop := ∀ n (ops : Array Oper) f, drawnT P n ops.toList = .mk f → ∀ X rec, ExtOk P γ X → RecOk P γ rec → ∀ env s k v1 s1, f X rec env s k = .ok v1 s1 →
  ∃ env' s', k env' s' = .ok v1 s1 ∧ Moves P γ n s env s' env' (fun Q a w => ∀ id, (Code.region id ops true).wp P Q a w)

theorem VR.bool_inv {ρ : Rho} {t : Bool} {v' : Value} (h : VR ρ γ (.bool t) v') : v' = .bool t := by cases h; rfl

theorem code_ok (hD : DrawnOk P γ) {n : Nat} {X : Ext} {r : Runs} (hX : ExtOk P γ X) (hr : RunsOk P γ r) : ∀ (c : Code) {F}, codeT P n c = .mk F → ∀ env s kn kx v1 s1, F X r env s kn kx = .ok v1 s1 →
    Ends P γ n s env kn kx v1 s1 (fun Q a w => c.wp P Q a w) := by
  intro c
  induction c with
  | skip =>
    intro F hF env s kn kx v1 s1 h
    cases hF
    exact ⟨.normal, env, s, h, fun ρ w a hrel hg hE Q hQ => wp_skip (hQ ρ w a (Goes.refl ρ s w) hrel hE)⟩
  | label l =>
    intro F hF env s kn kx v1 s1 h
    cases hF
    exact ⟨.normal, env, s, h, fun ρ w a hrel hg hE Q hQ => wp_label (hQ ρ w a (Goes.refl ρ s w) hrel hE)⟩
  | exit id =>
    intro F hF env s kn kx v1 s1 h
    cases hF
    exact ⟨.exit id, env, s, h, fun ρ w a hrel hg hE Q hQ => wp_exit (hQ ρ w a (Goes.refl ρ s w) hrel hE)⟩
  | goto l =>
    intro F hF env s kn kx v1 s1 h
    cases hF
    exact ⟨.goto l, env, s, h, fun ρ w a hrel hg hE Q hQ => wp_goto (hQ ρ w a (Goes.refl ρ s w) hrel hE)⟩
  | ret =>
    intro F hF env s kn kx v1 s1 h
    cases hF
    exact ⟨.ret, env, s, h, fun ρ w a hrel hg hE Q hQ => wp_ret (hQ ρ w a (Goes.refl ρ s w) hrel hE)⟩
  | region id ops draw =>
    intro F hF env s kn kx v1 s1 h
    change ofStep (regionT P n ops.toList draw) = CB.mk F at hF
    cases draw with
    | false =>
      change ofStep (opsT P n ops.toList ops.toList) = CB.mk F at hF
      cases hs : opsT P n ops.toList ops.toList with
      | mk f =>
        rw [hs] at hF; cases hF
        obtain ⟨env', s', q1, q2⟩ := opsT_ok hX hr.f ops.toList 0 (fun i => by simp) hs h
        refine ⟨.normal, env', s', q1, fun ρ w a hrel hg hE Q hQ => wp_region ?_⟩
        have := q2 ρ w a hrel hg hE Q hQ
        rw [Array.length_toList] at this
        rwa [List.range_eq_range']
    | true =>
      change ofStep (drawnT P n ops.toList) = CB.mk F at hF
      cases hs : drawnT P n ops.toList with
      | mk f =>
        rw [hs] at hF; cases hF
        obtain ⟨env', s', q1, q2⟩ := hD n ops f hs X r.f hX hr.f env s kn v1 s1 h
        exact ⟨.normal, env', s', q1, fun ρ w a hrel hg hE Q hQ => q2 ρ w a hrel hg hE Q hQ id⟩
  | seq x y ihx ihy =>
    intro F hF env s kn kx v1 s1 h
    unfold codeT at hF
    cases h1 : codeT P n x with
    | mk f =>
      rw [h1] at hF
      simp only at hF
      cases h2 : codeT P n y with
      | mk g =>
        rw [h2] at hF; cases hF
        obtain ⟨e, env', s', q1, q2⟩ := ihx h1 env s _ kx v1 s1 h
        cases e with
        | normal =>
          obtain ⟨e2, env2, s2, q3, q4⟩ := ihy h2 env' s' kn kx v1 s1 q1
          refine ⟨e2, env2, s2, q3, fun ρ w a hrel hg hE Q hQ => wp_seq (q2 ρ w a hrel hg hE _ ?_)⟩
          intro ρ' w' a' g1 g2 g3
          exact q4 ρ' w' a' g2 (hg.mono g1.le) g3 Q (fun ρ'' w'' a'' m1 m2 m3 => hQ ρ'' w'' a'' (g1.trans m1) m2 m3)
        | exit i => exact ⟨.exit i, env', s', q1, fun ρ w a hrel hg hE Q hQ => wp_seq (q2 ρ w a hrel hg hE _ hQ)⟩
        | goto i => exact ⟨.goto i, env', s', q1, fun ρ w a hrel hg hE Q hQ => wp_seq (q2 ρ w a hrel hg hE _ hQ)⟩
        | ret => exact ⟨.ret, env', s', q1, fun ρ w a hrel hg hE Q hQ => wp_seq (q2 ρ w a hrel hg hE _ hQ)⟩
  | cond c x y ihx ihy =>
    intro F hF env s kn kx v1 s1 h
    unfold codeT at hF
    cases h0 : evT P n c with
    | no => rw [h0] at hF; cases hF; cases h
    | mk fc =>
      rw [h0] at hF
      simp only at hF
      cases h1 : codeT P n x with
      | mk f =>
        rw [h1] at hF
        simp only at hF
        cases h2 : codeT P n y with
        | mk g =>
          rw [h2] at hF; cases hF
          change IV.onBool .no (fun t => Bool.rec (motive := fun _ => R) (g X r env s kn kx) (f X r env s kn kx) t) (fc env) = .ok v1 s1 at h
          generalize hv : fc env = v at h
          cases v <;> (try (cases h; done))
          rename_i t
          change Bool.rec (motive := fun _ => R) (g X r env s kn kx) (f X r env s kn kx) t = .ok v1 s1 at h
          have hc : ∀ {ρ : Rho} {a : Go.Act}, Glob P ρ → ER γ n ρ env a → a.eval c = .bool t := fun {ρ a} hg hE => by
            have := hE.op hg c fc h0
            rw [hv] at this
            exact this.bool_inv
          cases t with
          | true =>
            obtain ⟨e, env', s', q1, q2⟩ := ihx h1 env s kn kx v1 s1 h
            exact ⟨e, env', s', q1, fun ρ w a hrel hg hE Q hQ => wp_cond_true (hc hg hE) (q2 ρ w a hrel hg hE Q hQ)⟩
          | false =>
            obtain ⟨e, env', s', q1, q2⟩ := ihy h2 env s kn kx v1 s1 h
            exact ⟨e, env', s', q1, fun ρ w a hrel hg hE Q hQ => wp_cond_false (hc hg hE) (q2 ρ w a hrel hg hE Q hQ)⟩
  | block id b ih =>
    intro F hF env s kn kx v1 s1 h
    unfold codeT at hF
    cases h1 : codeT P n b with
    | mk f =>
      rw [h1] at hF; cases hF
      obtain ⟨e, env', s', q1, q2⟩ := ih h1 env s kn (leaves id kn kx) v1 s1 h
      cases e with
      | normal => exact ⟨.normal, env', s', q1, fun ρ w a hrel hg hE Q hQ => wp_block (q2 ρ w a hrel hg hE _ hQ)⟩
      | exit i =>
        change (match Nat.beq i id with | true => kn env' s' | false => kx (.exit i) env' s') = _ at q1
        cases hb : Nat.beq i id with
        | true =>
          rw [hb] at q1
          have e := Nat.eq_of_beq_eq_true hb
          refine ⟨.normal, env', s', q1, fun ρ w a hrel hg hE Q hQ => wp_block (q2 ρ w a hrel hg hE _ ?_)⟩
          intro ρ' w' a' g1 g2 g3
          show (if i = id then Q .normal a' w' else Q (.exit i) a' w')
          rw [if_pos e]
          exact hQ ρ' w' a' g1 g2 g3
        | false =>
          rw [hb] at q1
          have e : i ≠ id := fun e => by subst e; rw [Nat.beq_refl] at hb; cases hb
          refine ⟨.exit i, env', s', q1, fun ρ w a hrel hg hE Q hQ => wp_block (q2 ρ w a hrel hg hE _ ?_)⟩
          intro ρ' w' a' g1 g2 g3
          show (if i = id then Q .normal a' w' else Q (.exit i) a' w')
          rw [if_neg e]
          exact hQ ρ' w' a' g1 g2 g3
      | goto i => exact ⟨.goto i, env', s', q1, fun ρ w a hrel hg hE Q hQ => wp_block (q2 ρ w a hrel hg hE _ hQ)⟩
      | ret => exact ⟨.ret, env', s', q1, fun ρ w a hrel hg hE Q hQ => wp_block (q2 ρ w a hrel hg hE _ hQ)⟩
  | loop b ih =>
    intro F hF env s kn kx v1 s1 h
    cases hF
    obtain ⟨e, env', s', q1, q2⟩ := hr.l n b env s kn kx v1 s1 h
    exact ⟨e, env', s', q1, fun ρ w a hrel hg hE Q hQ => loop_of (q2 ρ w a hrel hg hE Q hQ)⟩
  | scope b ih =>
    intro F hF env s kn kx v1 s1 h
    cases hF
    obtain ⟨e, env', s', q1, q2⟩ := hr.s n b b env s kn kx v1 s1 h
    exact ⟨e, env', s', q1, fun ρ w a hrel hg hE Q hQ => scope_of (q2 ρ w a hrel hg hE Q hQ)⟩
  | _ =>
    intro F hF env s kn kx v1 s1 h
    cases hF; cases h

theorem runL_ok (hD : DrawnOk P γ) {X : Ext} {r : Runs} (hX : ExtOk P γ X) (hr : RunsOk P γ r) : ∀ n b env s kn kx v1 s1, runL P X r n b env s kn kx = .ok v1 s1 → Ends P γ n s env kn kx v1 s1 (LoopWp P b) := by
  intro n b env s kn kx v1 s1 h
  unfold runL at h
  split at h
  rename_i f hf
  obtain ⟨e, env', s', q1, q2⟩ := code_ok hD hX hr b hf env s _ kx v1 s1 h
  cases e with
  | normal =>
    obtain ⟨e2, env2, s2, q3, q4⟩ := hr.l n b env' s' kn kx v1 s1 q1
    refine ⟨e2, env2, s2, q3, fun ρ w a hrel hg hE Q hQ => loop_round (q2 ρ w a hrel hg hE _ ?_)⟩
    intro ρ' w' a' g1 g2 g3
    exact q4 ρ' w' a' g2 (hg.mono g1.le) g3 Q (fun ρ'' w'' a'' m1 m2 m3 => hQ ρ'' w'' a'' (g1.trans m1) m2 m3)
  | exit i => exact ⟨.exit i, env', s', q1, fun ρ w a hrel hg hE Q hQ => loop_round (q2 ρ w a hrel hg hE _ hQ)⟩
  | goto i => exact ⟨.goto i, env', s', q1, fun ρ w a hrel hg hE Q hQ => loop_round (q2 ρ w a hrel hg hE _ hQ)⟩
  | ret => exact ⟨.ret, env', s', q1, fun ρ w a hrel hg hE Q hQ => loop_round (q2 ρ w a hrel hg hE _ hQ)⟩

theorem runS_ok (hD : DrawnOk P γ) {X : Ext} {r : Runs} (hX : ExtOk P γ X) (hr : RunsOk P γ r) : ∀ n b c env s kn kx v1 s1, runS P X r n b c env s kn kx = .ok v1 s1 → Ends P γ n s env kn kx v1 s1 (ScopeWp P b c) := by
  intro n b c env s kn kx v1 s1 h
  unfold runS at h
  split at h
  rename_i f hf
  obtain ⟨e, env', s', q1, q2⟩ := code_ok hD hX hr c hf env s kn _ v1 s1 h
  cases e with
  | normal => exact ⟨.normal, env', s', q1, fun ρ w a hrel hg hE Q hQ => scope_round (q2 ρ w a hrel hg hE _ hQ)⟩
  | exit i => exact ⟨.exit i, env', s', q1, fun ρ w a hrel hg hE Q hQ => scope_round (q2 ρ w a hrel hg hE _ hQ)⟩
  | ret => exact ⟨.ret, env', s', q1, fun ρ w a hrel hg hE Q hQ => scope_round (q2 ρ w a hrel hg hE _ hQ)⟩
  | goto i =>
    change (match findLabel b i with | some rest => r.s n b rest env' s' kn kx | none => kx (.goto i) env' s') = _ at q1
    cases hl : findLabel b i with
    | none =>
      rw [hl] at q1
      refine ⟨.goto i, env', s', q1, fun ρ w a hrel hg hE Q hQ => scope_round (q2 ρ w a hrel hg hE _ ?_)⟩
      intro ρ' w' a' g1 g2 g3
      show (match findLabel b i with | some rest => ScopeWp P b rest Q a' w' | none => Q (.goto i) a' w')
      rw [hl]
      exact hQ ρ' w' a' g1 g2 g3
    | some rest =>
      rw [hl] at q1
      obtain ⟨e2, env2, s2, q3, q4⟩ := hr.s n b rest env' s' kn kx v1 s1 q1
      refine ⟨e2, env2, s2, q3, fun ρ w a hrel hg hE Q hQ => scope_round (q2 ρ w a hrel hg hE _ ?_)⟩
      intro ρ' w' a' g1 g2 g3
      show (match findLabel b i with | some rest => ScopeWp P b rest Q a' w' | none => Q (.goto i) a' w')
      rw [hl]
      exact q4 ρ' w' a' g2 (hg.mono g1.le) g3 Q (fun ρ'' w'' a'' m1 m2 m3 => hQ ρ'' w'' a'' (g1.trans m1) m2 m3)
end Go.Eng
end
section
set_option linter.constructorNameAsVariable false
set_option linter.unusedVariables false
set_option linter.unusedSimpArgs false
namespace Go.Eng
variable {P : Program} {γ : Gam}

theorem argsT_ok {n : Nat} : ∀ (m i : Nat) {f}, argsT n m i = .mk f → (m = 0 ∨ i + m ≤ n) ∧ ∀ (l : List IV) (env env' : Env), f l env = some env' → l.length = m ∧
    ∀ t ft gt, slotT n t = .mk ft gt → ft env' = if i ≤ t ∧ t < i + m then l.getD (t - i) undefI else ft env
  | 0, i, f, h => by
    cases h
    refine ⟨.inl rfl, fun l env env' hl => ?_⟩
    cases l with
    | nil => cases hl; exact ⟨rfl, fun t ft gt _ => by rw [if_neg (by omega)]⟩
    | cons v l => cases hl
  | m + 1, i, f, h => by
    unfold argsT at h
    cases hs : slotT n i with
    | no => rw [hs] at h; cases h
    | mk fi gi =>
      rw [hs] at h
      simp only at h
      cases ha : argsT n m (i + 1) with
      | no => rw [ha] at h; cases h
      | mk f' =>
        rw [ha] at h; cases h
        have hin := slot_lt hs
        obtain ⟨h1, h2⟩ := argsT_ok m (i + 1) ha
        refine ⟨.inr (by rcases h1 with h1 | h1 <;> omega), fun l env env' hl => ?_⟩
        cases l with
        | nil => cases hl
        | cons v l =>
          change f' l (gi v env) = some env' at hl
          obtain ⟨q1, q2⟩ := h2 l _ _ hl
          refine ⟨by simp [q1], fun t ft gt ht => ?_⟩
          rw [q2 t ft gt ht, slot_put hs ht]
          by_cases e : t = i
          · subst e
            rw [if_neg (by omega), if_pos rfl, if_pos (by omega), Nat.sub_self]; rfl
          · by_cases e2 : i + 1 ≤ t ∧ t < i + 1 + m
            · rw [if_pos e2, if_pos (by omega)]
              obtain ⟨d, hd⟩ : ∃ d, t - i = d + 1 := ⟨t - i - 1, by omega⟩
              rw [hd, show t - (i + 1) = d by omega]; rfl
            · rw [if_neg e2, if_neg e, if_neg (by omega)]

theorem VRs.getD {ρ : Rho} : ∀ {l : List IV} {l' : List Value}, VRs ρ γ l l' → ∀ k, VR ρ γ (l.getD k undefI) (l'.getD k undef)
  | _, _, .nil, k => .tup [] #[] .nil
  | _, _, .cons _ _ _ _ h _, 0 => h
  | _, _, .cons _ _ _ _ _ hs, k + 1 => VRs.getD hs k

theorem enter_ER {n m : Nat} {ρ : Rho} {f} (hf : argsT n m 0 = .mk f) {l : List IV} {l' : List Value} {env : Env} (he : f l .e = some env) (hl : VRs ρ γ l l') :
    ER γ n ρ env { tmps := l'.toArray ++ Array.replicate (n - l'.toArray.size) undef, defers := [] } := by
  obtain ⟨h1, h2⟩ := argsT_ok m 0 hf
  obtain ⟨h3, h4⟩ := h2 l _ _ he
  have hlen := hl.length
  refine ⟨by simp; omega, rfl, fun t ft gt ht => ?_⟩
  have htn := slot_lt ht
  rw [h4 t ft gt ht, slot_e ht]
  by_cases e : t < m
  · rw [if_pos (by omega)]
    have : (l'.toArray ++ Array.replicate (n - l'.toArray.size) undef).getD t undef = l'.getD (t - 0) undef := by
      rw [Array.getD_eq_getD_getElem?, Array.getElem?_append_left (by simp; omega), List.getD_eq_getElem?_getD]
      simp
    rw [this]
    exact hl.getD _
  · rw [if_neg (by omega)]
    have : (l'.toArray ++ Array.replicate (n - l'.toArray.size) undef).getD t undef = undef := by
      rw [Array.getD_eq_getD_getElem?, Array.getElem?_append_right (by simp; omega), Array.getElem?_replicate]
      split <;> rfl
    rw [this]
    exact .tup [] #[] .nil

theorem loadV_sim {ρ : Rho} {s : St} {w : World} {t b o : Nat} {p : Pl} {v : IV} (h : Rel P γ ρ s w) (hb : ρ b = some p) (hr : loadV P t b o s = some v) :
    ∃ v', (loadVar t ⟨p.blk, p.shift + o, none⟩).run P w = .ok v' w ∧ VR ρ γ v v' := by
  unfold loadV at hr
  split at hr <;> (try (cases hr; done))
  · rename_i ht
    split at hr <;> (try (cases hr; done))
    rename_i n hn
    cases hg : s.rd b o n with
    | none => rw [hg] at hr; cases hr
    | some l =>
      rw [hg] at hr
      cases hr
      obtain ⟨arr, e, fr, h1, h2, h3⟩ := h.rd hb hg
      refine ⟨_, ?_, .agg l _ h3⟩
      unfold loadVar
      simp only [Sem.run_bind, Sem.run_pure, Result.andThen_ok, run_isAgg ht, if_true, run_sizeOf hn, run_loadCells h1 h2]
  · rename_i ht
    cases hg : s.get b with
    | cells c len e fz str =>
      rw [hg] at hr
      change Bool.rec (motive := fun _ => Option IV) none (some (PT.get undefI c o)) (Nat.ble (o + 1) len) = some v at hr
      cases hbl : Nat.ble (o + 1) len with
      | false => rw [hbl] at hr; cases hr
      | true =>
        rw [hbl] at hr
        cases hr
        have hlen := Nat.le_of_ble_eq_true hbl
        obtain ⟨arr, fr, h1, h2⟩ := h.row hb hg
        cases h2 with
        | cells _ _ _ _ _ _ _ hl' ha hc hf hs htg hz =>
          obtain ⟨v', hv1, hv2⟩ := hc o (by omega)
          refine ⟨v', ?_, hv2⟩
          unfold loadVar
          simp only [Sem.run_bind, Sem.run_pure, Result.andThen_ok, run_isAgg ht, Bool.false_eq_true, if_false, run_load, cell_eq h1, hv1]
    | map es cl => rw [hg] at hr; cases hr
    | siter r p => rw [hg] at hr; cases hr
    | dead => rw [hg] at hr; cases hr

def resM (tmps : Array Value) : ResultVar → Sem Value
  | .tmp t => pure (tmps.getD t undef)
  | .cell a t => do loadVar t (← asAddr (tmps.getD a undef))

theorem resT_ok {n : Nat} {ρ : Rho} {s : St} {w : World} {env : Env} {a : Go.Act} (h : Rel P γ ρ s w) (hE : ER γ n ρ env a) : ∀ (l : List ResultVar) {g}, resT P n l = .mk g → ∀ {vs}, g env s = some vs →
    ∃ vs' : List Value, (l.mapM (resM a.tmps)).run P w = .ok vs' w ∧ VRs ρ γ vs vs'
  | [], g, hg, vs, hv => by
    cases hg; cases hv
    exact ⟨[], rfl, .nil⟩
  | x :: l, g, hg, vs, hv => by
    unfold resT at hg
    cases hs : slotT n (resSlot x) with
    | no => rw [hs] at hg; cases hg
    | mk f gs =>
      rw [hs] at hg
      simp only at hg
      cases hl : resT P n l with
      | no => rw [hl] at hg; cases hg
      | mk g' =>
        rw [hl] at hg; cases hg
        change consR (resOne P s (f env) x) (g' env s) = some vs at hv
        unfold consR at hv
        split at hv <;> (try (cases hv; done))
        rename_i v hv1
        split at hv <;> (try (cases hv; done))
        rename_i rest hv2
        cases hv
        obtain ⟨rest', q1, q2⟩ := resT_ok h hE l hl hv2
        have hslot := hE.slots _ f gs hs
        have hx : ∃ v', (resM a.tmps x).run P w = .ok v' w ∧ VR ρ γ v v' := by
          cases x with
          | tmp t => cases hv1; exact ⟨_, rfl, hslot⟩
          | cell c t =>
            change VR ρ γ (f env) (a.tmps.getD c undef) at hslot
            unfold resOne at hv1
            simp only at hv1
            generalize f env = fe at hv1 hslot
            generalize hcv : a.tmps.getD c undef = cv at hslot
            cases hslot <;> (try (cases hv1; done))
            rename_i b o p hb
            obtain ⟨v', m1, m2⟩ := loadV_sim h hb hv1
            refine ⟨v', ?_, m2⟩
            unfold resM
            simp only [hcv, asAddr, Sem.run_bind, Sem.run_pure, Result.andThen_ok, m1]
        obtain ⟨v', q3, q4⟩ := hx
        refine ⟨v' :: rest', ?_, .cons _ _ _ _ q4 q2⟩
        simp only [List.mapM_cons, Sem.run_bind, q3, q1, Result.andThen_ok, Sem.run_pure]

theorem results_ok {n : Nat} {ρ : Rho} {s : St} {w : World} {env : Env} {a : Go.Act} {fn : Func} (h : Rel P γ ρ s w) (hE : ER γ n ρ env a) {g} (hg : resT P n fn.results.toList = .mk g) {vs} (hv : g env s = some vs) :
    ∃ v', (results fn a.tmps).run P w = .ok v' w ∧ VR ρ γ (oneOr vs) v' := by
  obtain ⟨vs', q1, q2⟩ := resT_ok h hE fn.results.toList hg hv
  have e : results fn a.tmps = (do let vs ← fn.results.mapM (resM a.tmps); pure (if h : vs.size = 1 then vs[0] else .tuple vs)) := by
    unfold results
    congr 2
  have hm : (fn.results.mapM (resM a.tmps)).run P w = .ok vs'.toArray w := by
    rw [Array.mapM_eq_mapM_toList, Sem.run_map, q1]; rfl
  refine ⟨if h : vs'.toArray.size = 1 then vs'.toArray[0] else .tuple vs'.toArray, ?_, ?_⟩
  · rw [e]; simp only [Sem.run_bind, hm, Result.andThen_ok, Sem.run_pure]
  · have hlen := q2.length
    match vs, vs', q2 with
    | [], [], q2 => exact .tup [] #[] .nil
    | [v], [v'], .cons _ _ _ _ hv _ => exact hv
    | v :: v2 :: l, v' :: v2' :: l', q2 => exact .tup _ _ q2

theorem runF_ok (hD : DrawnOk P γ) {X : Ext} {r : Runs} (hX : ExtOk P γ X) (hr : RunsOk P γ r) : RecOk P γ (runF P X r) := by
  intro f args s k v1 s1 h
  unfold runF at h
  split at h
  rename_i g hg
  unfold fnT at hg
  cases hf : funI P f with
  | none => rw [hf] at hg; cases hg; cases h
  | some fn =>
    rw [hf] at hg
    simp only at hg
    cases hb : fn.body with
    | none => rw [hb] at hg; cases hg; cases h
    | some c =>
      rw [hb] at hg
      simp only at hg
      unfold fnAt at hg
      cases hc : codeT P fn.ntmps c with
      | mk F =>
        rw [hc] at hg
        simp only at hg
        cases ha : argsT fn.ntmps (fn.params.size + fn.nfree) 0 with
        | no => rw [ha] at hg; cases hg; cases h
        | mk fa =>
          rw [ha] at hg
          simp only at hg
          cases hres : resT P fn.ntmps fn.results.toList with
          | no => rw [hres] at hg; cases hg; cases h
          | mk res =>
            rw [hres] at hg; cases hg
            dsimp only at h
            cases henv : fa args .e with
            | none => rw [henv] at h; cases h
            | some env =>
              rw [henv] at h
              change F X r env s (fun env s => resR k s (res env s)) (atEnd fun env s => resR k s (res env s)) = .ok v1 s1 at h
              obtain ⟨e, env', s', q1, q2⟩ := code_ok hD hX hr c hc env s _ _ v1 s1 h
              have hend : ∃ vs, res env' s' = some vs ∧ k (oneOr vs) s' = .ok v1 s1 ∧ (e = .normal ∨ e = .ret) := by
                have key : resR k s' (res env' s') = .ok v1 s1 → ∃ vs, res env' s' = some vs ∧ k (oneOr vs) s' = .ok v1 s1 := by
                  intro hk
                  unfold resR at hk
                  split at hk <;> (try (cases hk; done))
                  rename_i vs hvs
                  exact ⟨vs, hvs, hk⟩
                cases e with
                | normal => obtain ⟨vs, m1, m2⟩ := key q1; exact ⟨vs, m1, m2, .inl rfl⟩
                | ret => obtain ⟨vs, m1, m2⟩ := key q1; exact ⟨vs, m1, m2, .inr rfl⟩
                | exit i => cases q1
                | goto i => cases q1
              obtain ⟨vs, m1, m2, m3⟩ := hend
              refine ⟨oneOr vs, s', m2, fun ρ w args' hrel hgl hv => ?_⟩
              refine calls_of_wp (funI_eq hf) hb ?_
              refine q2 ρ w _ hrel hgl (enter_ER ha henv hv) _ ?_
              intro ρ' w' a' g1 g2 g3
              obtain ⟨v', p1, p2⟩ := results_ok g2 g3 hres m1
              rcases m3 with rfl | rfl
              · exact ⟨g3.defers, v', p1, v', ρ', rfl, g1, g2, p2⟩
              · exact ⟨g3.defers, v', p1, v', ρ', rfl, g1, g2, p2⟩

/-- The whole of it. -/
theorem run_ok (hD : DrawnOk P γ) {X : Ext} (hX : ExtOk P γ X) : ∀ m, RunsOk P γ (run P X m)
  | 0 => { l := fun _ _ _ _ _ _ _ _ h => (nomatch (show R.no = R.ok _ _ from h)), s := fun _ _ _ _ _ _ _ _ _ h => (nomatch (show R.no = R.ok _ _ from h)), f := fun _ _ _ _ _ _ h => (nomatch (show R.no = R.ok _ _ from h)) }
  | m + 1 => ⟨runL_ok hD hX (run_ok hD hX m), runS_ok hD hX (run_ok hD hX m), runF_ok hD hX (run_ok hD hX m)⟩
end Go.Eng
end
section
set_option linter.constructorNameAsVariable false
set_option linter.unusedVariables false
set_option linter.unusedSimpArgs false
namespace Go.Eng
variable {P : Program} {γ : Gam}

/-- It hands back the state, and goes on. -/
def SoftA (fa : Ext → Rec → Env → St → KV → R) : Prop := ∀ X rec env s k v1 s1, fa X rec env s k = .ok v1 s1 → ∃ v, k v s = .ok v1 s1 ∧ fa noExt noRec env s .ok = .ok v s
/-- What it yields hangs on no state. -/
def PureA (fa : Ext → Rec → Env → St → KV → R) : Prop := SoftA fa ∧ ∀ env s v, fa noExt noRec env s .ok = .ok v s → ∀ s2, fa noExt noRec env s2 .ok = .ok v s2
/-- What it yields hangs on what there is, not on what comes newly. -/
def ReadA (fa : Ext → Rec → Env → St → KV → R) : Prop := SoftA fa ∧ (∀ env s v x, s.get s.next = .dead → fa noExt noRec env s .ok = .ok v s → fa noExt noRec env (s.new x) .ok = .ok v (s.new x)) ∧
  ∀ env s v s', fa noExt noRec env s .ok = .ok v s' → s' = s

def PureF (F : Env → St → R) : Prop := ∀ env s v s', F env s = .ok v s' → s' = s ∧ ∀ s2, F env s2 = .ok v s2
def ReadF (F : Env → St → R) : Prop := ∀ env s v s', F env s = .ok v s' → s' = s ∧ ∀ x, s.get s.next = .dead → F env (s.new x) = .ok v (s.new x)

theorem PureF.read {F : Env → St → R} (h : PureF F) : ReadF F := fun env s v s' hF => ⟨(h env s v s' hF).1, fun x _ => (h env s v s' hF).2 _⟩
theorem soft_of {F : Env → St → R} (h : ∀ env s v s', F env s = .ok v s' → s' = s) : SoftA fun _ _ env s q => (F env s).bind q := by
  intro X rec env s k v1 s1 hk
  obtain ⟨v, s', h1, h2⟩ := bind_ok hk
  have := h env s v s' h1
  subst this
  exact ⟨v, h2, by show (F env s').bind .ok = _; rw [h1]; rfl⟩
theorem bind_ret {r : R} {v : IV} {s : St} (h : r.bind .ok = .ok v s) : r = .ok v s := by cases r with
  | no => cases h
  | ok v' s' => exact h
theorem PureF.act {F : Env → St → R} (h : PureF F) : PureA fun _ _ env s q => (F env s).bind q :=
  ⟨soft_of fun env s v s' hF => (h env s v s' hF).1, fun env s v hv s2 => by
    have := (h env s v s (bind_ret hv)).2 s2
    show (F env s2).bind .ok = _; rw [this]; rfl⟩
theorem ReadF.act {F : Env → St → R} (h : ReadF F) : ReadA fun _ _ env s q => (F env s).bind q :=
  ⟨soft_of fun env s v s' hF => (h env s v s' hF).1, fun env s v x hd hv => by
    have := (h env s v s (bind_ret hv)).2 x hd
    show (F env (s.new x)).bind .ok = _; rw [this]; rfl, fun env s v s' hv => (h env s v s' (bind_ret hv)).1⟩
theorem pure_val (G : Env → Option IV) : PureF fun env s => R.val s (G env) := by
  intro env s v s' h
  obtain ⟨h1, rfl⟩ := val_ok h
  exact ⟨rfl, fun s2 => by show R.val s2 (G env) = _; rw [h1]; rfl⟩
theorem pure_ok (G : Env → IV) : PureF fun env s => .ok (G env) s := by
  intro env s v s' h
  cases h
  exact ⟨rfl, fun s2 => rfl⟩

/-- A pure one, or none. -/
def PureAct (A : Eng.Act) : Prop := ∀ fa, A = .mk fa → PureA fa
def ReadAct (A : Eng.Act) : Prop := ∀ fa, A = .mk fa → ReadA fa
theorem pureAct_no : PureAct noAct := by
  intro fa h; cases h
  exact ⟨fun X rec env s k v1 s1 h => (by cases h), fun env s v h => (by cases h)⟩
theorem readAct_no : ReadAct noAct := by
  intro fa h; cases h
  exact ⟨fun X rec env s k v1 s1 h => (by cases h), fun env s v x _ h => (by cases h), fun env s v s' h => (by cases h)⟩
theorem PureF.mk {F : Env → St → R} (h : PureF F) : PureAct (.mk fun _ _ env s q => (F env s).bind q) := by intro fa hf; cases hf; exact h.act
theorem ReadF.mk {F : Env → St → R} (h : ReadF F) : ReadAct (.mk fun _ _ env s q => (F env s).bind q) := by intro fa hf; cases hf; exact h.act

theorem pure_r {F : Env → St → R} (h : ∀ env, (∃ v, ∀ s, F env s = .ok v s) ∨ ∀ s, F env s = .no) : PureF F := by
  intro env s v s' hF
  rcases h env with ⟨v0, h0⟩ | h0
  · rw [h0] at hF; cases hF; exact ⟨rfl, h0⟩
  · rw [h0] at hF; cases hF

section ops
variable {n : Nat}
theorem move_pure (x : Operand) : PureAct (xMove P n x) := by
  unfold xMove
  split
  · rename_i f hf; exact (pure_ok f).mk
  · exact pureAct_no
theorem pick_pure (c x y : Operand) : PureAct (xPick P n c x y) := by
  unfold xPick
  split <;> try exact pureAct_no
  rename_i f1 h1
  split <;> try exact pureAct_no
  rename_i f2 h2
  split <;> try exact pureAct_no
  rename_i f3 h3
  refine PureF.mk (F := fun env s => pickB (f1 env) (f2 env) (f3 env) s) (pure_r fun env => ?_)
  unfold pickB
  cases f1 env <;> first
    | (exact .inr fun s => rfl)
    | (rename_i b; cases b <;> exact .inl ⟨_, fun s => rfl⟩)
theorem build_pure (t : Nat) (ps : List (Nat × Operand)) : PureAct (xBuild P n t ps) := by
  unfold xBuild
  split <;> try exact pureAct_no
  split <;> try exact pureAct_no
  split <;> try exact pureAct_no
  split <;> try exact pureAct_no
  rename_i f hf _ z hz _ u hu _ hb
  refine PureF.mk (F := fun env s => valAgg s (buildIn P u z.cells (f env))) (pure_r fun env => ?_)
  cases buildIn P u z.cells (f env) with
  | none => exact .inr fun s => rfl
  | some c => exact .inl ⟨_, fun s => rfl⟩
theorem nil_pure (x : Operand) : PureAct (xNil P n x) := by
  unfold xNil
  split <;> try exact pureAct_no
  rename_i f hf
  refine PureF.mk (F := fun env s => nilV (f env) s) (pure_r fun env => ?_)
  unfold nilV nilV'
  cases f env <;> first
    | (exact .inr fun s => rfl)
    | (exact .inl ⟨_, fun s => rfl⟩)
    | (rename_i fn _ _; cases fn <;> first | (exact .inr fun s => rfl) | (exact .inl ⟨_, fun s => rfl⟩))
theorem bin_pure (op : BinOp) (t : Nat) (x y : Operand) : PureAct (xBin P n op t x y) := by
  unfold xBin
  split <;> try exact pureAct_no
  rename_i f hf
  split <;> try exact pureAct_no
  rename_i g hg
  split
  rename_i h hop
  refine PureF.mk (F := fun env s => binInt P op h t x y (f env) (g env) s) (pure_r fun env => ?_)
  have hv : ∀ a b, (∃ v, ∀ s, binV P op t x y a b s = .ok v s) ∨ ∀ s, binV P op t x y a b s = .no := by
    intro a b
    unfold binV
    cases eqSafe P op t x y a b with
    | false => exact .inr fun s => rfl
    | true =>
      cases binop P op t a b with
      | none => exact .inr fun s => rfl
      | some v => exact .inl ⟨v, fun s => rfl⟩
  unfold binInt
  generalize f env = a
  generalize g env = b
  cases a <;> (try exact hv _ _)
  cases b <;> (try exact hv _ _)
  rename_i k m k' m'
  show (∃ v, ∀ s, Bool.rec (motive := fun _ => R) (binV P op t x y (.int k m) (.int k' m') s) (R.val s (h k m m')) (kindEq k k') = .ok v s) ∨ ∀ s, Bool.rec (motive := fun _ => R) (binV P op t x y (.int k m) (.int k' m') s) (R.val s (h k m m')) (kindEq k k') = .no
  cases kindEq k k' with
  | false => exact hv _ _
  | true =>
    cases h k m m' with
    | none => exact .inr fun s => rfl
    | some v => exact .inl ⟨v, fun s => rfl⟩
theorem un_pure (op : UnOp) (x : Operand) : PureAct (xUn P n op x) := by
  unfold xUn
  split <;> try exact pureAct_no
  rename_i f hf
  exact (pure_val fun env => unop op (f env)).mk
theorem iface_pure (t : Nat) (x : Operand) : PureAct (xIface P n t x) := by
  unfold xIface
  split <;> try exact pureAct_no
  split <;> try exact pureAct_no
  split <;> try exact pureAct_no
  rename_i f hf _ u hu _ hn
  exact (pure_ok fun env => .iface t (f env)).mk
theorem func_pure (f : Fn) (as bs : List Operand) : PureAct (xFunc P n f as bs) := by
  unfold xFunc
  split <;> try exact pureAct_no
  split <;> try exact pureAct_no
  split <;> try exact pureAct_no
  rename_i g hg _ g2 hg2 _ hn
  exact (pure_ok fun env => .fn f (g env) (g2 env)).mk
theorem fieldAddr_pure (t k : Nat) (x : Operand) : PureAct (xFieldAddr P n t k x) := by
  unfold xFieldAddr
  split <;> try exact pureAct_no
  split <;> try exact pureAct_no
  split <;> try exact pureAct_no
  rename_i f hf _ fd hfd _ m hm
  refine PureF.mk (F := fun env s => addrV fd.offset (f env) s) (pure_r fun env => ?_)
  unfold addrV
  cases f env <;> first | (exact .inr fun s => rfl) | (exact .inl ⟨_, fun s => rfl⟩)
theorem field_pure (t k : Nat) (x : Operand) : PureAct (xField P n t k x) := by
  unfold xField
  split <;> try exact pureAct_no
  split <;> try exact pureAct_no
  rename_i f hf _ fd hfd
  refine PureF.mk (F := fun env s => partV P fd.type fd.offset (f env) s) (pure_r fun env => ?_)
  unfold partV
  cases f env <;> first
    | (exact .inr fun s => rfl)
    | (rename_i cs
       simp only
       cases part P fd.type cs fd.offset with
       | none => exact .inr fun s => rfl
       | some v => exact .inl ⟨v, fun s => rfl⟩)
theorem indexAddr_pure (t : Nat) (x i : Operand) : PureAct (xIndexAddr P n t x i) := by
  unfold xIndexAddr
  split <;> try exact pureAct_no
  rename_i f hf
  split <;> try exact pureAct_no
  rename_i g hg
  split <;> try exact pureAct_no
  · split <;> try exact pureAct_no
    rename_i sz hsz
    refine PureF.mk (F := fun env s => atSl sz (f env) (g env) s) (pure_r fun env => ?_)
    unfold atSl
    generalize f env = a
    generalize g env = b
    cases b <;> (try (exact .inr fun s => rfl))
    rename_i k m
    cases m with
    | negSucc m => exact .inr fun s => rfl
    | ofNat m =>
      cases a <;> (try (exact .inr fun s => rfl))
      rename_i b o l c ex
      show (∃ v, ∀ s, Bool.rec (motive := fun _ => R) .no (.ok (.ptr b (Nat.add o (Nat.mul m sz))) s) (Nat.ble (Nat.succ m) l) = .ok v s) ∨ ∀ s, Bool.rec (motive := fun _ => R) .no (.ok (.ptr b (Nat.add o (Nat.mul m sz))) s) (Nat.ble (Nat.succ m) l) = .no
      cases Nat.ble (Nat.succ m) l
      · exact .inr fun s => rfl
      · exact .inl ⟨_, fun s => rfl⟩
  · split <;> try exact pureAct_no
    rename_i m e hu _ sz hsz
    refine PureF.mk (F := fun env s => atArr m sz (f env) (g env).nat s) (pure_r fun env => ?_)
    unfold atArr
    generalize f env = a
    cases (g env).nat with
    | none => exact .inr fun s => rfl
    | some i =>
      cases a <;> (try (exact .inr fun s => rfl))
      simp only
      cases Nat.blt i m
      · exact .inr fun s => rfl
      · exact .inl ⟨_, fun s => rfl⟩
theorem index_pure (t : Nat) (x i : Operand) : PureAct (xIndex P n t x i) := by
  unfold xIndex
  split <;> try exact pureAct_no
  rename_i f hf
  split <;> try exact pureAct_no
  rename_i g hg
  split <;> try exact pureAct_no
  · refine PureF.mk (F := fun env s => atStr (f env) (g env).nat s) (pure_r fun env => ?_)
    unfold atStr
    generalize f env = a
    cases (g env).nat with
    | none => exact .inr fun s => rfl
    | some i =>
      cases a <;> (try (exact .inr fun s => rfl))
      rename_i l
      simp only
      cases nth l i with
      | none => exact .inr fun s => rfl
      | some c => exact .inl ⟨_, fun s => rfl⟩
  · split <;> try exact pureAct_no
    rename_i m e hu _ sz hsz
    refine PureF.mk (F := fun env s => atAgg P m e sz (f env) (g env).nat s) (pure_r fun env => ?_)
    unfold atAgg
    generalize f env = a
    cases (g env).nat with
    | none => exact .inr fun s => rfl
    | some i =>
      cases a <;> (try (exact .inr fun s => rfl))
      rename_i cs
      simp only
      cases Nat.blt i m
      · exact .inr fun s => rfl
      · cases part P e cs (Nat.mul i sz) with
        | none => exact .inr fun s => rfl
        | some v => exact .inl ⟨v, fun s => rfl⟩
theorem assert_pure (t : Nat) (x : Operand) (ok : Bool) : PureAct (xAssert P n t x ok) := by
  unfold xAssert
  split <;> try exact pureAct_no
  rename_i f hf
  split <;> try exact pureAct_no
  rename_i u hu
  split
  · rename_i want; exact (pure_val fun env => assertI P t ok want (f env)).mk
  · exact (pure_val fun env => assertC P t ok (f env)).mk
theorem extract_pure (x : Operand) (i : Nat) : PureAct (xExtract P n x i) := by
  unfold xExtract
  split <;> try exact pureAct_no
  rename_i f hf
  refine PureF.mk (F := fun env s => extrV i (f env) s) (pure_r fun env => ?_)
  unfold extrV
  generalize f env = a
  cases a <;> (try (exact .inr fun s => rfl))
  rename_i vs
  simp only
  cases nth vs i with
  | none => exact .inr fun s => rfl
  | some v => exact .inl ⟨v, fun s => rfl⟩

/- reads -/
theorem get_new_old {s : St} {x : IObj} {b : Nat} (hd : s.get s.next = .dead) (h : s.get b ≠ .dead) : (s.new x).get b = s.get b := by
  rw [get_new, if_neg]
  intro e; subst e; exact h hd
theorem rd_new {s : St} {x : IObj} {b o k : Nat} {l : List IV} (hd : s.get s.next = .dead) (h : s.rd b o k = some l) : (s.new x).rd b o k = some l := by
  obtain ⟨c, len, e, fz, str, hg, _⟩ := rd_some h
  unfold St.rd at h ⊢
  rw [get_new_old hd (by rw [hg]; exact fun h => by cases h)]
  exact h
theorem load_read (t : Nat) (x : Operand) : ReadAct (xLoad P n t x) := by
  unfold xLoad
  split <;> try exact readAct_no
  rename_i f hf
  split <;> try exact readAct_no
  · split <;> try exact readAct_no
    rename_i k hk
    refine ReadF.mk (F := fun env s => loadA k (f env) s) ?_
    intro env s v s' h
    change loadA k (f env) s = .ok v s' at h
    unfold loadA valAgg at h
    split at h <;> (try (cases h; done))
    rename_i b o hv
    split at h <;> (try (cases h; done))
    rename_i l hl
    cases h
    refine ⟨rfl, fun x hd => ?_⟩
    show loadA k (f env) _ = _
    rw [hv]
    unfold loadA valAgg
    simp only [rd_new hd hl]
  · refine ReadF.mk (F := fun env s => load1 (f env) s) ?_
    intro env s v s' h
    change load1 (f env) s = .ok v s' at h
    generalize hfe : f env = a at h
    cases a <;> (try (simp [load1, IV.onPtr] at h; done))
    rename_i b o
    change R.val s (cellOf o (s.get b)) = .ok v s' at h
    obtain ⟨h1, rfl⟩ := val_ok h
    refine ⟨rfl, fun x hd => ?_⟩
    show load1 (f env) _ = _
    rw [hfe]
    show R.val _ (cellOf o ((s'.new x).get b)) = _
    rw [get_new_old hd (by intro e; rw [e] at h1; cases h1), h1]
    rfl
theorem slice_read (t : Nat) (x : Operand) (lo hi mx : Option Operand) : ReadAct (xSlice P n t x lo hi mx) := by
  unfold xSlice
  split <;> try exact readAct_no
  rename_i f hf
  split <;> try exact readAct_no
  rename_i u hu
  split <;> try exact readAct_no
  refine ReadF.mk (F := fun env s => sliceV P u (f env) (evnGet (evnT P n lo) env) (evnGet (evnT P n hi) env) (evnGet (evnT P n mx) env) s) ?_
  intro env s v s' h
  change sliceV P u (f env) (evnGet (evnT P n lo) env) (evnGet (evnT P n hi) env) (evnGet (evnT P n mx) env) s = .ok v s' at h
  show s' = s ∧ ∀ x, s.get s.next = .dead → sliceV P u (f env) (evnGet (evnT P n lo) env) (evnGet (evnT P n hi) env) (evnGet (evnT P n mx) env) (s.new x) = .ok v (s.new x)
  generalize evnGet (evnT P n lo) env = elo at h ⊢
  generalize evnGet (evnT P n hi) env = ehi at h ⊢
  generalize evnGet (evnT P n mx) env = emx at h ⊢
  generalize f env = a at h ⊢
  unfold sliceV at h ⊢
  cases elo with
  | none => cases h
  | some lo' =>
    cases ehi with
    | none => cases h
    | some hi' =>
      cases emx with
      | none => cases h
      | some mx' =>
        simp only at h ⊢
        cases hok : slOk u a s with
        | false => rw [hok] at h; cases h
        | true =>
          rw [hok] at h
          obtain ⟨h1, rfl⟩ := val_ok h
          refine ⟨rfl, fun x hd => ?_⟩
          have : slOk u a (s'.new x) = true := by
            cases a <;> (try rfl)
            rename_i b o l c ex
            cases ex
            · cases u <;> (try rfl)
              rename_i e
              change rowIs e (s'.get b) = true at hok
              show rowIs e ((s'.new x).get b) = true
              rw [get_new_old hd]
              · exact hok
              · intro hde; rw [hde] at hok; cases hok
            · rfl
          rw [this, h1]
          rfl
theorem conv_cls {src dst : Nat} (x : Operand) : (clsOf P (.convert src dst x) = .pure → PureAct (xConv P n src dst x)) ∧ (clsOf P (.convert src dst x) = .read → ReadAct (xConv P n src dst x)) := by
  change (clsConv (undI P src) (undI P dst) = .pure → _) ∧ (clsConv (undI P src) (undI P dst) = .read → _)
  unfold xConv
  cases evT P n x with
  | no => exact ⟨fun _ => pureAct_no, fun _ => readAct_no⟩
  | mk f =>
    cases hs : undI P src with
    | none => exact ⟨fun _ => pureAct_no, fun _ => readAct_no⟩
    | some us =>
      cases hd : undI P dst with
      | none => exact ⟨fun _ => pureAct_no, fun _ => readAct_no⟩
      | some ud =>
        simp only
        constructor
        · intro hc
          refine PureF.mk (F := fun env s => convAt P src dst us ud (f env) s) (pure_r fun env => ?_)
          unfold convAt
          cases us <;> (try (cases hc; done)) <;> cases ud <;> (try (cases hc; done)) <;> cases f env <;> first
            | (exact .inl ⟨_, fun s => rfl⟩)
            | (exact .inr fun s => rfl)
        · intro hc
          refine ReadF.mk (F := fun env s => convAt P src dst us ud (f env) s) ?_
          cases us <;> (try (cases hc; done)) <;> cases ud <;> (try (cases hc; done))
          rename_i e
          intro env s v s' h
          unfold convAt at h ⊢
          simp only at h ⊢
          generalize f env = a at h ⊢
          cases a <;> simp only at h ⊢ <;> (try (cases h; exact ⟨rfl, fun x _ => rfl⟩)) <;> unfold ofBytes at h ⊢ <;> (cases hb : isByte P e with
            | false => rw [hb] at h; cases h
            | true =>
              rw [hb] at h
              simp only at h ⊢
              first
                | (cases h; done)
                | (cases h; exact ⟨rfl, fun x _ => rfl⟩)
                | (unfold strOfBytes at h ⊢
                   split at h <;> (try (cases h; done))
                   rename_i l hl
                   split at h <;> (try (cases h; done))
                   rename_i r hr
                   cases h
                   refine ⟨rfl, fun x hd => ?_⟩
                   rw [rd_new hd hl]
                   simp only [hr]))
theorem builtin_pure (c : Call) (h : clsOf P (.call c) = .pure) : PureAct (xCall P n c) := by
  change clsCall P c.callee c.argTypes = .pure at h
  unfold xCall
  unfold clsCall at h
  split at h <;> (try (cases h; done))
  rename_i b hb
  rw [hb]
  simp only
  unfold xBuiltin
  split <;> try exact pureAct_no
  · split <;> try exact pureAct_no
    rename_i f hf
    unfold b1T
    unfold clsBuiltin at h
    cases b <;> (try (cases h; done)) <;> simp only <;> (try exact pureAct_no)
    · split <;> try exact pureAct_no
      refine PureF.mk (F := fun env s => capOf (f env) s) (pure_r fun env => ?_)
      unfold capOf
      cases f env <;> first | (exact .inl ⟨_, fun s => rfl⟩) | (exact .inr fun s => rfl) | (rename_i ex; cases ex <;> first | (exact .inl ⟨_, fun s => rfl⟩) | (exact .inr fun s => rfl))
    · split <;> try exact pureAct_no
      · refine PureF.mk (F := fun env s => lenStr (f env) s) (pure_r fun env => ?_)
        unfold lenStr
        cases f env <;> first | (exact .inl ⟨_, fun s => rfl⟩) | (exact .inr fun s => rfl)
      · rename_i hd; simp only [hd] at h; cases h
      · refine PureF.mk (F := fun env s => lenSl (f env) s) (pure_r fun env => ?_)
        unfold lenSl
        cases f env <;> first | (exact .inl ⟨_, fun s => rfl⟩) | (exact .inr fun s => rfl)
  · split <;> try exact pureAct_no
    rename_i f hf
    split <;> try exact pureAct_no
    rename_i g hg
    have hmm : ∀ m : Int → Int → Int, PureF fun env s => doMinMax m (f env) (g env) s := by
      intro m
      refine pure_r fun env => ?_
      unfold doMinMax
      generalize f env = a
      generalize g env = b
      cases a <;> (try (exact .inr fun s => rfl))
      cases b <;> (try (exact .inr fun s => rfl))
      rename_i k _ k' _
      simp only
      cases kindEq k k' <;> first | (exact .inl ⟨_, fun s => rfl⟩) | (exact .inr fun s => rfl)
    unfold b2T
    unfold clsBuiltin at h
    cases b <;> (try (cases h; done)) <;> simp only <;> (try exact pureAct_no) <;> exact (hmm _).mk
theorem builtin_read (c : Call) (h : clsOf P (.call c) = .read) : ReadAct (xCall P n c) := by
  change clsCall P c.callee c.argTypes = .read at h
  unfold clsCall at h
  split at h <;> (try (cases h; done))
  rename_i b hb
  unfold clsBuiltin at h
  split at h <;> (try (cases h; done))
  split at h <;> (cases h; done)

theorem cls_pure (op : Op) (h : clsOf P op = .pure) : PureAct (execT P n op) := by
  cases op
  case convert src dst x => exact (conv_cls x).1 h
  case call c => exact builtin_pure c h
  all_goals first
    | (cases h; done)
    | exact move_pure _
    | exact pick_pure _ _ _
    | exact build_pure _ _
    | exact nil_pure _
    | exact bin_pure _ _ _ _
    | exact un_pure _ _
    | exact iface_pure _ _
    | exact func_pure _ _ _
    | exact fieldAddr_pure _ _ _
    | exact field_pure _ _ _
    | exact indexAddr_pure _ _ _
    | exact index_pure _ _ _
    | exact assert_pure _ _ _
    | exact extract_pure _ _
theorem cls_read (op : Op) (h : clsOf P op = .read) : ReadAct (execT P n op) := by
  cases op
  case convert src dst x => exact (conv_cls x).2 h
  case call c => exact builtin_read c h
  all_goals first
    | (cases h; done)
    | exact load_read _ _
    | exact slice_read _ _ _ _ _
end ops
end Go.Eng
end
section
set_option linter.constructorNameAsVariable false
set_option linter.unusedVariables false
set_option linter.unusedSimpArgs false
namespace Go.Eng
variable {P : Program} {γ : Gam}

theorem le_with_none {ρ : Rho} {b : Nat} {p : Pl} (h : ρ b = none) : Le ρ (ρ.with b p) := by
  intro x q hx
  rw [Rho.with_other]
  · exact hx
  · intro e; subst e; rw [h] at hx; cases hx

/-- What is there in the ideal comes to be. -/
theorem Rel.born {ρ : Rho} {s : St} {w : World} (h : Rel P γ ρ s w) {b : Nat} (hb : ρ b = none) (hlt : b < s.next) {p : Pl} (hp : p.blk = w.heap.size) {o : Obj} (ho : OR P (ρ.with b p) γ p (s.get b) o) :
    Rel P γ (ρ.with b p) s (pushed w o) := by
  have hle : Le ρ (ρ.with b p) := le_with_none hb
  refine ⟨?_, ?_, h.fresh, ?_⟩
  · intro b' q hb' hd
    by_cases e : b' = b
    · subst e
      rw [Rho.with_self] at hb'; cases hb'
      exact ⟨o, by rw [hp]; exact pushed_self w o, ho⟩
    · rw [Rho.with_other _ _ e] at hb'
      obtain ⟨o', h1, h2⟩ := h.live b' q hb' hd
      exact ⟨o', by rw [pushed_other (h.bound b' q hb').2]; exact h1, h2.mono hle⟩
  · intro b' q hb'
    rw [pushed_size]
    by_cases e : b' = b
    · subst e
      rw [Rho.with_self] at hb'; cases hb'
      exact ⟨hlt, by omega⟩
    · rw [Rho.with_other _ _ e] at hb'
      have := h.bound b' q hb'
      exact ⟨this.1, by omega⟩
  · intro b1 b2 p1 p2 h1 h2 d1 d2 hne
    by_cases e1 : b1 = b
    · subst e1
      rw [Rho.with_self] at h1; cases h1
      rw [Rho.with_other _ _ (Ne.symm hne)] at h2
      have := (h.bound b2 p2 h2).2
      omega
    · rw [Rho.with_other _ _ e1] at h1
      by_cases e2 : b2 = b
      · subst e2
        rw [Rho.with_self] at h2; cases h2
        have := (h.bound b1 p1 h1).2
        omega
      · rw [Rho.with_other _ _ e2] at h2
        exact h.apart b1 b2 p1 p2 h1 h2 d1 d2 hne

theorem Goes.born' {ρ₀ ρ : Rho} {s₀ s : St} {w₀ w : World} (h : Goes ρ₀ s₀ w₀ ρ s w) {b : Nat} (hb : ρ b = none) (h0 : s₀.next ≤ b) {p : Pl} (hp : p.blk = w.heap.size) (o : Obj) : Goes ρ₀ s₀ w₀ (ρ.with b p) s (pushed w o) where
  le := h.le.trans (le_with_none hb)
  unborn b' hb' hn := by
    obtain ⟨h1, h2⟩ := h.unborn b' hb' hn
    exact ⟨by rw [Rho.with_other _ _ (by omega)]; exact h1, h2⟩
  next := h.next
  others x hx hn := by
    rw [pushed_other (Nat.lt_of_lt_of_le hx h.size)]
    exact h.others x hx hn
  born b' q hb' hd hq := by
    by_cases e : b' = b
    · subst e
      rw [Rho.with_self] at hb'; cases hb'
      have := h.size
      omega
    · rw [Rho.with_other _ _ e] at hb'
      exact h.born b' q hb' hd hq
  size := by rw [pushed_size]; have := h.size; omega
  os := h.os
  tape := h.tape
  output := h.output

/-- What is not yet there may come ahead of its time. -/
theorem Rel.ahead {ρ : Rho} {s : St} {w : World} (h : Rel P γ ρ s w) (x : IObj) : Rel P γ ρ (s.new x) w ∧ ρ s.next = none := by
  have hn : ρ s.next = none := by
    cases hr : ρ s.next with
    | none => rfl
    | some p => have := (h.bound _ p hr).1; omega
  have hne : ∀ {b p}, ρ b = some p → b ≠ s.next := fun {b p} hb e => by subst e; rw [hn] at hb; cases hb
  refine ⟨⟨?_, ?_, ?_, ?_⟩, hn⟩
  · intro b p hb hd
    rw [get_new, if_neg (hne hb)] at hd ⊢
    exact h.live b p hb hd
  · intro b p hb
    have := h.bound b p hb
    exact ⟨by rw [next_new]; omega, this.2⟩
  · intro b hb
    rw [next_new] at hb
    rw [get_new, if_neg (by omega)]
    exact h.fresh b (by omega)
  · intro b1 b2 p1 p2 h1 h2 d1 d2 hne'
    rw [get_new, if_neg (hne h1)] at d1
    rw [get_new, if_neg (hne h2)] at d2
    exact h.apart b1 b2 p1 p2 h1 h2 d1 d2 hne'

theorem row_or {ρ : Rho} {w : World} {b e n : Nat} {l : List IV} {arr : Array Value} (hb : ρ b = none) (hv : VRs ρ γ l arr.toList) (hz : size P e = some n) :
    OR P (ρ.with b ⟨w.heap.size, 0, arr.size, n⟩) γ ⟨w.heap.size, 0, arr.size, n⟩ (rowOf l e 0) (.cells arr e) := by
  have hll := hv.length
  simp only [Array.length_toList] at hll
  refine .cells _ _ _ _ _ _ _ (by simp; omega) (by simp) ?_ (by intro j _ _ hj; simp at hj) (fun _ => ⟨.inl rfl, fun _ => rfl⟩) (fun _ => rfl) hz
  intro j hj
  rw [get_wrC, dif_pos (by omega)]
  have hk : l[j - 0]? = some (l[j - 0]'(by omega)) := List.getElem?_eq_getElem (by omega)
  obtain ⟨v', hv1, hv2⟩ := hv.get hk
  refine ⟨v', ?_, hv2.mono (le_with_none hb)⟩
  simp only [Nat.zero_add]
  simpa using hv1

/-- A world that may have drawn. -/
def dr (j : Bool) (w : World) : World := match j with
  | true => Eng.drawn w
  | false => w
theorem dr_size (j : Bool) (w : World) : (dr j w).heap.size = w.heap.size := by cases j <;> rfl
theorem Rel.dr {ρ : Rho} {s : St} {w : World} (h : Rel P γ ρ s w) (j : Bool) : Rel P γ ρ s (Eng.dr j w) := by
  cases j
  · exact h
  · exact h.drawn
theorem Goes.dr {ρ₀ ρ : Rho} {s₀ s : St} {w₀ w : World} (h : Goes ρ₀ s₀ w₀ ρ s w) (j : Bool) : Goes ρ₀ s₀ w₀ ρ s (Eng.dr j w) := by
  cases j
  · exact h
  · exact h.trans (Goes.drawn ρ s w)
/-- It makes a new block, whenever it is done. -/
def MadeAct (P : Program) (γ : Gam) (n : Nat) (op : Op) (A : Eng.Act) : Prop := ∀ fa, A = .mk fa → ∀ X rec env s k v1 s1, fa X rec env s k = .ok v1 s1 → ∃ v x, x ≠ .dead ∧ k v (s.new x) = .ok v1 s1 ∧
  ∀ (ρ : Rho) (w : World) (a : Go.Act) (o : Oper), o.op = op → ρ s.next = none → OpsR P γ n ρ env a op.operands.toList →
    ∃ v' ob p j, (execOp a.eval o).run P w = .ok (.value v') (pushed (dr j w) ob) ∧ p.blk = w.heap.size ∧ OR P (ρ.with s.next p) γ p x ob ∧ VR (ρ.with s.next p) γ v v'

theorem madeAct_no {n : Nat} {op : Op} : MadeAct P γ n op noAct := by
  intro fa hf X rec env s k v1 s1 h
  cases hf; cases h

theorem rowOf_ne (l : List IV) (e t : Nat) : rowOf l e t ≠ .dead := by intro h; cases h

section ops
variable {n : Nat}
theorem alloc_made (e : Nat) : MadeAct P γ n (.alloc e) (xAlloc P e) := by
  unfold xAlloc
  split <;> try exact madeAct_no
  rename_i z hz
  intro fa hf X rec env s k v1 s1 h
  cases hf
  refine ⟨_, _, rowOf_ne z.cells e 0, h, fun ρ w a o ho hb hops => ?_⟩
  obtain ⟨m, hm⟩ := size_of_zero hz
  obtain ⟨v, hv, hrun⟩ := run_zeroValue hz
  refine ⟨_, .cells v.cells e, ⟨w.heap.size, 0, v.cells.size, m⟩, false, ?_, rfl, row_or hb (VR.ofValue (ρ := ρ) (γ := γ) hv).cells hm, .ptr _ _ _ (Rho.with_self _ _ _)⟩
  simp only [dr, execOp, ho, Instr.alloc, Sem.run_bind, hrun, Result.andThen_ok, newVar, run_newRow, Sem.run_pure]

theorem box_made (e : Nat) (x : Operand) : MadeAct P γ n (.box e x) (xBox P n e x) := by
  unfold xBox
  split <;> try exact madeAct_no
  rename_i f hf
  split <;> try exact madeAct_no
  rename_i z hz
  intro fa hfa X rec env s k v1 s1 h
  cases hfa
  refine ⟨_, _, rowOf_ne (f env).cells e 0, h, fun ρ w a o ho hb hops => ?_⟩
  have hx := hops x (.head _) f hf
  refine ⟨_, .cells (a.eval x).cells e, ⟨w.heap.size, 0, (a.eval x).cells.size, z⟩, false, ?_, rfl, row_or hb hx.cells hz, .ptr _ _ _ (Rho.with_self _ _ _)⟩
  simp only [dr, execOp, ho, Instr.box, Sem.run_bind, Result.andThen_ok, newVar, run_newRow, Sem.run_pure]

theorem buildSlice_made (t len : Nat) (ps : Array (Nat × Operand)) : MadeAct P γ n (.buildSlice t len ps) (xBuildSlice P n t len ps.toList) := by
  unfold xBuildSlice
  split <;> try exact madeAct_no
  rename_i f hf
  split <;> try exact madeAct_no
  rename_i e he
  split <;> try exact madeAct_no
  rename_i z hz
  split <;> try exact madeAct_no
  rename_i k hk
  split <;> try exact madeAct_no
  rename_i hb
  simp only [Bool.and_eq_true] at hb
  intro fa hfa X rec env s q v1 s1 h
  cases hfa
  dsimp only at h
  obtain ⟨v, s', h1, h2⟩ := bind_ok h
  cases hc : Eng.fill (fun i => some (i * k, k)) (rep len z.cells) (f env) with
  | none => rw [hc] at h1; cases h1
  | some c =>
    rw [hc] at h1
    cases h1
    refine ⟨_, _, rowOf_ne c e 0, h2, fun ρ w a o ho hbn hops => ?_⟩
    have hp := OpsR.evp (l := ps.toList) (fun x hx => hops x (by simpa [Op.operands] using hx)) hf
    have hle := Nat.le_of_ble_eq_true hb.1
    have hzl := Nat.eq_of_beq_eq_true hb.2
    have hu := sliceT_eq he
    obtain ⟨zv, hzv, hzrun⟩ := run_zeroValue hz
    have hzr := (VR.ofValue (ρ := ρ) (γ := γ) hzv).cells
    have hzs : zv.cells.size = k := by have := hzr.length; simp at this; omega
    have hnb : ¬ (len * k > 2 ^ 24) := by omega
    let zs : Array Value := if len * k = 0 then #[] else zv.cells
    have hrow : VRs ρ γ (rep len z.cells) ((Array.range (len * k)).map (zs[· % zs.size]!)).toList := by
      by_cases h0 : len * k = 0
      · have : rep len z.cells = [] := List.length_eq_zero_iff.1 (by rw [length_rep, hzl, h0])
        rw [this, h0]; simpa using VRs.nil
      · have : zs = zv.cells := if_neg h0
        rw [this]
        exact rep_sim hzr (by rw [hzs])
    obtain ⟨r', g1, g2⟩ := fill_sim hrow hp.1 hp.2 hc
    refine ⟨.slice (some ⟨w.heap.size, 0, none⟩) len len, .cells r' e, ⟨w.heap.size, 0, r'.size, k⟩, false, ?_, rfl, row_or hbn g2 hk, ?_⟩
    · simp only [dr, execOp, ho, Instr.buildSlice, Sem.run_bind, run_underlying hu, Result.andThen_ok, run_sizeOf hk, if_neg hnb]
      by_cases h0 : len * k = 0
      · have hz0 : zs = #[] := if_pos h0
        rw [hz0] at g1
        simp only [if_pos h0, Sem.run_bind, Sem.run_pure, Result.andThen_ok]
        have g1' : Instr.fill (fun i => some (i * k, k)) ((Array.range (len * k)).map ((#[] : Array Value)[· % (#[] : Array Value).size]!)) (ps.map fun (i, x) => (i, a.eval x)).toList = some r' := by simpa using g1
        simp only [g1', Sem.run_bind, run_newRow, Result.andThen_ok, Sem.run_pure]
      · have hz0 : zs = zv.cells := if_neg h0
        rw [hz0] at g1
        simp only [if_neg h0, Sem.run_bind, hzrun, Sem.run_pure, Result.andThen_ok]
        have g1' : Instr.fill (fun i => some (i * k, k)) ((Array.range (len * k)).map (zv.cells[· % zv.cells.size]!)) (ps.map fun (i, x) => (i, a.eval x)).toList = some r' := by simpa using g1
        simp only [g1', Sem.run_bind, run_newRow, Result.andThen_ok, Sem.run_pure]
    · have := VR.slx (ρ := ρ.with s.next ⟨w.heap.size, 0, r'.size, k⟩) (γ := γ) s.next 0 len len _ (Rho.with_self _ _ _)
      exact this

theorem toBytes_run {e : Nat} (he : isByte P e = true) (b : ByteArray) (w : World) : ∃ cap arr, b.size ≤ cap ∧
    (Conv.stringToBytes e b).run P w = .ok (.slice (some ⟨w.heap.size, 0, none⟩) b.size cap) (pushed (Eng.drawn w) (.cells arr e (arr.size, arr.size + 1))) ∧
    ∀ ρ : Rho, OR P ρ γ ⟨w.heap.size, 0, cap, 1⟩ (rowOf (bytesI (b.data.toList.map UInt8.toNat)) e 1) (.cells arr e (arr.size, arr.size + 1)) := by
  obtain ⟨hu, hz⟩ := isByte_eq he
  have hcap : ∃ cap, b.size ≤ cap ∧ (choose (.appendCap b.size 0 e)).run P w = .ok cap (Eng.drawn w) :=
    ⟨b.size + w.tape w.drawn (.appendCap b.size 0 e) % (2 ^ 63 - b.size), Nat.le_add_right _ _, by simp only [run_choose, Question.forced, Bool.false_eq_true, if_false]; rfl⟩
  obtain ⟨cap, hle, hch⟩ := hcap
  generalize hw : Eng.drawn w = wd at hch
  have hsz : wd.heap.size = w.heap.size := by subst hw; rfl
  let elems : Array Value := b.data.map fun c => .int .u8 c.toNat
  let arr : Array Value := elems ++ Array.replicate (cap - b.size) (.int .u8 0)
  have hasz : arr.size = cap := by
    show (b.data.map _ ++ Array.replicate _ _).size = cap
    have : b.data.size = b.size := rfl
    simp; omega
  have hl : (b.data.toList.map UInt8.toNat).length = b.size := by simp
  refine ⟨cap, arr, hle, ?_, fun ρ => ?_⟩
  · unfold Conv.stringToBytes
    simp only [Sem.run_bind, hch, Result.andThen_ok, run_newRow]
    rw [run_markStringish (pushed_self wd _)]
    simp only [Result.andThen_ok, Sem.run_pure, beq_self_eq_true, if_true, setRow_pushed]
    rw [hsz]
  · refine .cells _ _ _ _ _ _ _ (by rw [length_bytesI, hl]; show 0 + b.size ≤ cap; omega) (by show cap ≤ arr.size; omega) ?_ ?_ (fun hne => absurd rfl hne) (fun h0 => by cases h0) hz
    · intro j hj
      rw [length_bytesI, hl] at hj
      have hbl : (bytesI (b.data.toList.map UInt8.toNat)).length = b.size := by rw [length_bytesI, hl]
      rw [get_wrC, dif_pos (by omega)]
      have hv := bytesI_sim (γ := γ) (ρ := ρ) b.data.toList
      have hk : (bytesI (b.data.toList.map UInt8.toNat))[j - 0]? = some ((bytesI (b.data.toList.map UInt8.toNat))[j - 0]'(by omega)) := List.getElem?_eq_getElem (by omega)
      obtain ⟨v', hv1, hv2⟩ := hv.get hk
      refine ⟨v', ?_, hv2⟩
      show arr[0 + j]? = _
      have hj2 : j < elems.size := by show j < (b.data.map _).size; have : b.data.size = b.size := rfl; simp; omega
      rw [Nat.zero_add, Array.getElem?_append_left hj2, ← hv1]
      show (b.data.map _)[j]? = _
      rw [Nat.sub_zero, Array.getElem?_map, List.getElem?_map, Array.getElem?_toList]
    · intro j hj1 hj2 hj3
      have hj2 : j < cap := hj2
      rw [hasz] at hj3
      omega
theorem conv_made {src dst : Nat} (x : Operand) (hc : clsConv (undI P src) (undI P dst) = .made) : MadeAct P γ n (.convert src dst x) (xConv P n src dst x) := by
  unfold xConv
  split <;> try exact madeAct_no
  rename_i f hf
  split <;> try exact madeAct_no
  rename_i us hs
  split <;> try exact madeAct_no
  rename_i ud hd
  rw [hs, hd] at hc
  intro fa hfa X rec env s k v1 s1 h
  cases hfa
  dsimp only at h
  obtain ⟨v, s', h1, h2⟩ := bind_ok h
  cases us <;> (try (cases hc; done)) <;> cases ud <;> (try (cases hc; done))
  rename_i e
  unfold convAt at h1
  cases hv : f env <;> rw [hv] at h1 <;> (try (cases h1; done))
  rename_i b
  simp only at h1
  unfold toBytes at h1
  cases hb : isByte P e with
  | false => rw [hb] at h1; cases h1
  | true =>
    rw [hb] at h1
    cases h1
    refine ⟨_, _, rowOf_ne _ e 1, h2, fun ρ w a o ho hbn hops => ?_⟩
    have hx := hops x (.head _) f hf
    rw [hv] at hx
    generalize hy : a.eval x = y at hx
    obtain ⟨l, rfl, rfl⟩ : ∃ l : ByteArray, y = .string l ∧ b = l.data.toList.map UInt8.toNat := by
      cases hx with
      | str l _ hl => exact ⟨l, rfl, by first | exact hl | exact hl.symm⟩
    · obtain ⟨cap, arr, hle, hrun, hor⟩ := toBytes_run (γ := γ) hb l w
      obtain ⟨hu, _⟩ := isByte_eq hb
      refine ⟨.slice (some ⟨w.heap.size, 0, none⟩) l.size cap, _, ⟨w.heap.size, 0, cap, 1⟩, true, ?_, rfl, hor _, ?_⟩
      · simp only [execOp, ho, hy]
        unfold convert
        simp only [Sem.run_bind, run_underlying (undI_eq hs), run_underlying (undI_eq hd), Result.andThen_ok, run_underlying (undI_eq hu), hrun, Sem.run_pure]
        rfl
      · have hvl := VR.sli (ρ := ρ.with s.next ⟨w.heap.size, 0, cap, 1⟩) (γ := γ) s.next 0 l.size l.size cap 0 ⟨w.heap.size, 0, cap, 1⟩ (Rho.with_self _ _ _) (Nat.le_refl _) hle (.inl rfl) (by show 0 + cap * 1 ≤ cap; omega)
        have hl : (l.data.toList.map UInt8.toNat).length = l.size := by simp
        rw [hl]
        exact hvl

theorem cls_made (op : Op) (h : clsOf P op = .made) : MadeAct P γ n op (execT P n op) := by
  cases op
  case convert src dst x => exact conv_made x h
  case call c =>
    exfalso
    change clsCall P c.callee c.argTypes = .made at h
    unfold clsCall at h
    split at h <;> (try (cases h; done))
    unfold clsBuiltin at h
    split at h <;> (try (cases h; done))
    split at h <;> cases h
  all_goals first
    | (cases h; done)
    | exact alloc_made _
    | exact box_made _ _
    | exact buildSlice_made _ _ _
end ops
end Go.Eng
end
section
set_option linter.constructorNameAsVariable false
set_option linter.unusedVariables false
set_option linter.unusedSimpArgs false
namespace Go.Eng
variable {P : Program} {γ : Gam}

theorem has_eq (m i : Nat) : has m i = m.testBit i := by
  unfold has
  show Nat.beq ((m >>> i) &&& 1) 1 = (1 &&& (m >>> i) != 0)
  rw [Nat.and_comm 1]
  have : (m >>> i) &&& 1 < 2 := Nat.lt_of_le_of_lt (Nat.and_le_right) (by decide)
  generalize (m >>> i) &&& 1 = q at this
  match q, this with
  | 0, _ => rfl
  | 1, _ => rfl
theorem ready_bits {done : Nat} {p : Plan} (h : ready done p = true) (j : Nat) (hj : p.bef.testBit j = true) : done.testBit j = true := by
  have := Nat.eq_of_beq_eq_true h
  have h2 : (p.bef &&& done).testBit j = p.bef.testBit j := congrArg (·.testBit j) this
  rw [Nat.testBit_and, hj] at h2
  simpa using h2

theorem bitAt_eq : ∀ (acc : List Nat) (k : Nat), bitAt acc k = acc.getD k 0
  | [], k => rfl
  | x :: acc, 0 => rfl
  | x :: acc, k + 1 => bitAt_eq acc k

theorem edgeBits_bits (i : Nat) (acc : List Nat) : ∀ (es : List Edge) (b j : Nat), (edgeBits i acc es b).testBit j = true → b.testBit j = true ∨ ∃ e ∈ es, Region.binds .any e = true ∧ (j = e.on ∨ (acc.getD (i - 1 - e.on) 0).testBit j = true)
  | [], b, j, h => .inl h
  | e :: es, b, j, h => by
    have he : edgeBits i acc (e :: es) b = Bool.rec (motive := fun _ => Nat) (edgeBits i acc es b) (edgeBits i acc es (Nat.lor (Nat.lor b (Nat.pow 2 e.on)) (bitAt acc (Nat.sub (Nat.sub i 1) e.on)))) (Region.binds .any e) := rfl
    rw [he] at h
    cases hb : Region.binds .any e with
    | false =>
      rw [hb] at h
      rcases edgeBits_bits i acc es b j h with h1 | ⟨e', h1, h2⟩
      · exact .inl h1
      · exact .inr ⟨e', .tail _ h1, h2⟩
    | true =>
      rw [hb] at h
      rcases edgeBits_bits i acc es _ j h with h1 | ⟨e', h1, h2⟩
      · change ((b ||| 2 ^ e.on) ||| bitAt acc (i - 1 - e.on)).testBit j = true at h1
        rw [Nat.testBit_or, Nat.testBit_or, Nat.testBit_two_pow, bitAt_eq] at h1
        simp only [Bool.or_eq_true, decide_eq_true_eq] at h1
        rcases h1 with (h1 | h1) | h1
        · exact .inl h1
        · exact .inr ⟨e, .head _, hb, .inl h1.symm⟩
        · exact .inr ⟨e, .head _, hb, .inr h1⟩
      · exact .inr ⟨e', .tail _ h1, h2⟩

theorem befores_cons (o : Oper) (os : List Oper) (i : Nat) (acc : List Nat) : befores (o :: os) i acc = edgeBits i acc o.after.toList 0 :: befores os (i + 1) (edgeBits i acc o.after.toList 0 :: acc) := rfl
theorem length_befores : ∀ (os : List Oper) (i : Nat) (acc : List Nat), (befores os i acc).length = os.length
  | [], _, _ => rfl
  | o :: os, i, acc => by rw [befores_cons, List.length_cons, length_befores os]; rfl
theorem get_befores : ∀ (os : List Oper) (i : Nat) (acc : List Nat) (k : Nat) (o : Oper), os[k]? = some o →
    (befores os i acc)[k]? = some (edgeBits (i + k) (((befores os i acc).take k).reverse ++ acc) o.after.toList 0)
  | [], _, _, k, o, h => by simp at h
  | o' :: os, i, acc, 0, o, h => by simp at h; subst h; rw [befores_cons]; simp
  | o' :: os, i, acc, k + 1, o, h => by
    rw [befores_cons]
    have := get_befores os (i + 1) (edgeBits i acc o'.after.toList 0 :: acc) k o (by simpa using h)
    rw [List.getElem?_cons_succ, this, List.take_succ_cons, List.reverse_cons, List.append_assoc]
    rw [show i + 1 + k = i + (k + 1) by omega]
    rfl

theorem get_plans (P : Program) : ∀ (os : List Oper) (bs : List Nat) (i k : Nat), bs.length = os.length → (plans P os bs i)[k]? = (os[k]?).bind fun o => (bs[k]?).map fun b => ⟨i + k, o, b, clsOf P o.op⟩
  | [], bs, i, k, _ => by cases bs <;> simp [plans]
  | o :: os, [], i, k, h => by simp at h
  | o :: os, b :: bs, i, 0, h => by simp [plans]
  | o :: os, b :: bs, i, k + 1, h => by
    simp only [plans, List.getElem?_cons_succ]
    rw [get_plans P os bs (i + 1) k (by simpa using h)]
    rw [show Nat.succ i + k = i + (k + 1) by omega]

theorem length_plans (P : Program) : ∀ (os : List Oper) (bs : List Nat) (i : Nat), bs.length = os.length → (plans P os bs i).length = os.length
  | [], bs, i, _ => by cases bs <;> simp [plans]
  | o :: os, [], i, h => by simp at h
  | o :: os, b :: bs, i, h => by simp only [plans, List.length_cons]; rw [length_plans P os bs _ (by simpa using h)]
theorem get_all (P : Program) (os : List Oper) (k : Nat) : (allPlans P os)[k]? = (os[k]?).bind fun o => ((befores os 0 [])[k]?).map fun b => ⟨k, o, b, clsOf P o.op⟩ := by
  unfold allPlans
  rw [get_plans P os _ 0 k (length_befores os 0 [])]
  simp

theorem mem_all {os : List Oper} {p : Plan} (h : p ∈ allPlans P os) : (allPlans P os)[p.i]? = some p ∧ os[p.i]? = some p.o ∧ (befores os 0 [])[p.i]? = some p.bef ∧ p.cls = clsOf P p.o.op := by
  obtain ⟨k, hk⟩ := List.mem_iff_getElem?.1 h
  have hk0 := hk
  rw [get_all] at hk
  cases ho : os[k]? with
  | none => rw [ho] at hk; cases hk
  | some o =>
    rw [ho] at hk
    cases hb : (befores os 0 [])[k]? with
    | none => rw [hb] at hk; cases hk
    | some b =>
      rw [hb] at hk
      cases hk
      exact ⟨hk0, ho, hb, rfl⟩
theorem all_mem {os : List Oper} {k : Nat} (h : k < os.length) : ∃ p ∈ allPlans P os, p.i = k := by
  have ho : os[k]? = some os[k] := List.getElem?_eq_getElem h
  have hb : (befores os 0 [])[k]? = some ((befores os 0 [])[k]'(by rw [length_befores]; exact h)) := List.getElem?_eq_getElem _
  refine ⟨⟨k, os[k], (befores os 0 [])[k]'(by rw [length_befores]; exact h), clsOf P os[k].op⟩, List.mem_iff_getElem?.2 ⟨k, ?_⟩, rfl⟩
  rw [get_all, ho, hb]
  rfl
theorem all_inj {os : List Oper} {p q : Plan} (hp : p ∈ allPlans P os) (hq : q ∈ allPlans P os) (h : p.i = q.i) : p = q := by
  have h1 := (mem_all hp).1
  have h2 := (mem_all hq).1
  rw [h, h2] at h1
  exact (Option.some.inj h1).symm
theorem all_bef {os : List Oper} {p : Plan} (hp : p ∈ allPlans P os) (hedge : ∀ e ∈ p.o.after.toList, Region.binds .any e = true → e.on < p.i) {j : Nat} (hj : p.bef.testBit j = true) :
    ∃ e ∈ p.o.after.toList, Region.binds .any e = true ∧ (j = e.on ∨ ∃ q ∈ allPlans P os, q.i = e.on ∧ q.bef.testBit j = true) := by
  obtain ⟨_, h1, h2, _⟩ := mem_all hp
  have h3 := get_befores os 0 [] p.i p.o h1
  rw [h2] at h3
  have h4 := Option.some.inj h3
  rw [h4] at hj
  rcases edgeBits_bits _ _ _ _ _ hj with h5 | ⟨e, h5, h6, h7⟩
  · simp at h5
  · refine ⟨e, h5, h6, ?_⟩
    rcases h7 with h7 | h7
    · exact .inl h7
    · right
      have hlt := hedge e h5 h6
      have hpl : p.i < os.length := (List.getElem?_eq_some_iff.1 h1).1
      obtain ⟨q, hq1, hq2⟩ := all_mem (P := P) (os := os) (k := e.on) (by omega)
      refine ⟨q, hq1, hq2, ?_⟩
      obtain ⟨_, _, hq3, _⟩ := mem_all hq1
      rw [hq2] at hq3
      have hlb := length_befores os 0 []
      rw [List.append_nil, List.getD_eq_getElem?_getD, List.getElem?_reverse (by rw [List.length_take]; omega), List.length_take, List.getElem?_take] at h7
      rw [show min p.i (befores os 0 []).length - 1 - (0 + p.i - 1 - e.on) = e.on by omega, if_pos hlt, hq3] at h7
      exact h7
theorem all_i {os : List Oper} {k : Nat} {p : Plan} (h : (allPlans P os)[k]? = some p) : p.i = k := by
  rw [get_all] at h
  cases ho : os[k]? <;> rw [ho] at h <;> (try (cases h; done))
  cases hb : (befores os 0 [])[k]? <;> rw [hb] at h <;> cases h
  rfl
theorem all_nodup (P : Program) (os : List Oper) : (allPlans P os).Nodup := by
  unfold List.Nodup
  rw [List.pairwise_iff_getElem]
  intro i j hi hj hij he
  have h1 := all_i (List.getElem?_eq_getElem hi)
  have h2 := all_i (List.getElem?_eq_getElem hj)
  rw [he] at h1
  omega

/- the order -/
theorem pickSoft_perm {done : Nat} : ∀ {l : List Plan} {p : Plan} {r : List Plan}, pickSoft done l = .mk p r → l.Perm (p :: r) ∧ ready done p = true
  | [], p, r, h => by cases h
  | q :: l, p, r, h => by
    have he : pickSoft done (q :: l) = Bool.rec (motive := fun _ => Pick) (Pick.rec (motive := fun _ => Pick) .no (fun q' qs => .mk q' (q :: qs)) (pickSoft done l)) (.mk q l) (Bool.rec (motive := fun _ => Bool) false (ready done q) q.cls.soft) := rfl
    rw [he] at h
    have step : Pick.rec (motive := fun _ => Pick) .no (fun q' qs => .mk q' (q :: qs)) (pickSoft done l) = .mk p r → (q :: l).Perm (p :: r) ∧ ready done p = true := by
      intro h
      cases hl : pickSoft done l with
      | no => rw [hl] at h; cases h
      | mk q' qs =>
        rw [hl] at h
        cases h
        obtain ⟨h1, h2⟩ := pickSoft_perm hl
        exact ⟨(h1.cons q).trans (List.Perm.swap _ _ _), h2⟩
    cases hs : q.cls.soft with
    | false => rw [hs] at h; exact step h
    | true =>
      rw [hs] at h
      cases hr : ready done q with
      | false => rw [hr] at h; exact step h
      | true => rw [hr] at h; cases h; exact ⟨List.Perm.refl _, hr⟩
theorem pickHard_perm {done : Nat} {l : List Plan} {p : Plan} {r : List Plan} (h : pickHard done l = .mk p r) : l = p :: r ∧ ready done p = true := by
  cases l with
  | nil => cases h
  | cons q l =>
    change Bool.rec (motive := fun _ => Pick) .no (.mk q l) (ready done q) = .mk p r at h
    cases hr : ready done q with
    | false => rw [hr] at h; cases h
    | true => rw [hr] at h; cases h; exact ⟨rfl, hr⟩

def LinFrom : Nat → List Plan → Prop
  | _, [] => True
  | done, p :: ps => ready done p = true ∧ LinFrom (done ||| 2 ^ p.i) ps

def atLast (l r : List Plan) : Option (List Plan) := match l with
  | [] => some r.reverse
  | _ => none
theorem order_zero (done : Nat) (l r : List Plan) : order 0 done l r = atLast l r := rfl
noncomputable def thenHard (n done : Nat) (l r : List Plan) : Pick → Option (List Plan)
  | .mk p l => order n (Nat.lor done (Nat.pow 2 p.i)) l (p :: r)
  | .no => atLast l r
noncomputable def thenSoft (n done : Nat) (l r : List Plan) : Pick → Option (List Plan)
  | .mk p l => order n (Nat.lor done (Nat.pow 2 p.i)) l (p :: r)
  | .no => thenHard n done l r (pickHard done l)
theorem order_succ (n done : Nat) (l r : List Plan) : order (n + 1) done l r = thenSoft n done l r (pickSoft done l) := by
  have : order (n + 1) done l r = (match pickSoft done l with
      | .mk p l => order n (Nat.lor done (Nat.pow 2 p.i)) l (p :: r)
      | .no => match pickHard done l with
        | .mk p l => order n (Nat.lor done (Nat.pow 2 p.i)) l (p :: r)
        | .no => match l with
          | [] => some r.reverse
          | _ => none) := rfl
  rw [this]
  cases pickSoft done l with
  | mk p l => rfl
  | no =>
    show _ = thenHard n done l r (pickHard done l)
    cases pickHard done l <;> rfl
theorem atLast_spec {done : Nat} {l r out : List Plan} (h : atLast l r = some out) : ∃ tail, out = r.reverse ++ tail ∧ l.Perm tail ∧ LinFrom done tail := by
  cases l with
  | nil => cases h; exact ⟨[], by simp, List.Perm.refl _, trivial⟩
  | cons _ _ => cases h

theorem order_spec : ∀ (n done : Nat) (l r out : List Plan), order n done l r = some out → ∃ tail, out = r.reverse ++ tail ∧ l.Perm tail ∧ LinFrom done tail
  | 0, done, l, r, out, h => atLast_spec (by rw [order_zero] at h; exact h)
  | n + 1, done, l, r, out, h => by
    rw [order_succ] at h
    cases hs : pickSoft done l with
    | mk p l' =>
      rw [hs] at h
      obtain ⟨h1, h2⟩ := pickSoft_perm hs
      obtain ⟨tail, q1, q2, q3⟩ := order_spec n _ l' _ out h
      exact ⟨p :: tail, by simp [q1], h1.trans (q2.cons p), h2, q3⟩
    | no =>
      rw [hs] at h
      change thenHard n done l r (pickHard done l) = some out at h
      cases hh : pickHard done l with
      | mk p l' =>
        rw [hh] at h
        obtain ⟨rfl, h2⟩ := pickHard_perm hh
        obtain ⟨tail, q1, q2, q3⟩ := order_spec n _ l' _ out h
        exact ⟨p :: tail, by simp [q1], q2.cons p, h2, q3⟩
      | no =>
        rw [hh] at h
        exact atLast_spec h

/- what is asked of a drawn region -/
theorem writers_cons (q : Plan) (l : List Plan) : writers (q :: l) = (match q.o.dst with | some d => ⟨d, q.i, q.bef⟩ :: writers l | none => writers l) := rfl
theorem mem_writers {l : List Plan} {p : Plan} {d : Nat} (h : p ∈ l) (hd : p.o.dst = some d) : (⟨d, p.i, p.bef⟩ : Wr) ∈ writers l := by
  induction l with
  | nil => cases h
  | cons q l ih =>
    rw [writers_cons]
    rcases List.mem_cons.1 h with rfl | h
    · rw [hd]; exact List.mem_cons_self
    · cases q.o.dst with
      | none => exact ih h
      | some _ => exact List.mem_cons_of_mem _ (ih h)

theorem onceOk_cons (w : Wr) (ws : List Wr) : onceOk (w :: ws) = Bool.rec (motive := fun _ => Bool) false (onceOk ws) (allB (fun v => notB (Nat.beq v.t w.t)) ws) := rfl
theorem onceOk_tail {w : Wr} {ws : List Wr} (h : onceOk (w :: ws) = true) : onceOk ws = true ∧ ∀ v ∈ ws, v.t ≠ w.t := by
  rw [onceOk_cons] at h
  cases ha : allB (fun v => notB (Nat.beq v.t w.t)) ws with
  | false => rw [ha] at h; cases h
  | true =>
    rw [ha] at h
    refine ⟨h, fun v hv e => ?_⟩
    have := (allB_iff _ _).1 ha v hv
    rw [notB_eq, e, Nat.beq_refl] at this
    cases this

theorem once_spec {l : List Plan} (h : onceOk (writers l) = true) {p q : Plan} {d : Nat} (hp : p ∈ l) (hq : q ∈ l) (hpd : p.o.dst = some d) (hqd : q.o.dst = some d) : p = q := by
  induction l with
  | nil => cases hp
  | cons x l ih =>
    rw [writers_cons] at h
    have htail : onceOk (writers l) = true := by
      cases hx : x.o.dst with
      | none => rw [hx] at h; exact h
      | some _ => rw [hx] at h; exact (onceOk_tail h).1
    rcases List.mem_cons.1 hp with rfl | hp' <;> rcases List.mem_cons.1 hq with rfl | hq'
    · rfl
    · rw [hpd] at h
      exact absurd (rfl : d = d) ((onceOk_tail h).2 ⟨d, q.i, q.bef⟩ (mem_writers hq' hqd))
    · rw [hqd] at h
      exact absurd (rfl : d = d) ((onceOk_tail h).2 ⟨d, p.i, p.bef⟩ (mem_writers hp' hpd))
    · exact ih htail hp' hq'

theorem look_spec {l : List Plan} {p q : Plan} {t : Nat} (h : planOk1 (writers l) p = true) (hx : .tmp t ∈ p.o.op.operands.toList) (hq : q ∈ l) (hqd : q.o.dst = some t) : p.bef.testBit q.i = true ∨ q.bef.testBit p.i = true := by
  unfold planOk1 at h
  cases h1 : allB (opndOk (writers l) p.i p.bef) p.o.op.operands.toList with
  | false => rw [h1] at h; cases h
  | true =>
    have h2 := (allB_iff _ _).1 h1 _ hx
    change allB (fun w => Bool.rec (motive := fun _ => Bool) true (orB (has p.bef w.i) (has w.bef p.i)) (Nat.beq w.t t)) (writers l) = true at h2
    have h3 := (allB_iff _ _).1 h2 _ (mem_writers hq hqd)
    change Bool.rec (motive := fun _ => Bool) true (orB (has p.bef q.i) (has q.bef p.i)) (Nat.beq t t) = true at h3
    rw [Nat.beq_refl] at h3
    change orB (has p.bef q.i) (has q.bef p.i) = true at h3
    rw [has_eq, has_eq] at h3
    cases h4 : p.bef.testBit q.i with
    | true => exact .inl rfl
    | false => rw [h4] at h3; exact .inr h3
theorem guard_spec {ws : List Wr} {p : Plan} {j : Nat} {b : Bool} (h : planOk1 ws p = true) (hg : p.o.guard = some (j, b)) : p.bef.testBit j = true := by
  unfold planOk1 at h
  split at h <;> (try (cases h; done))
  split at h <;> (try (cases h; done))
  rename_i hk
  rw [hg] at hk
  rw [← has_eq]; exact hk
theorem edge_spec {ws : List Wr} {p : Plan} (h : planOk1 ws p = true) : ∀ e ∈ p.o.after.toList, Region.binds .any e = true → e.on < p.i := by
  unfold planOk1 at h
  split at h <;> (try (cases h; done))
  split at h <;> (try (cases h; done))
  intro e he hb
  have := (allB_iff _ _).1 h e he
  unfold edgeOk at this
  rw [hb] at this
  simpa [Nat.blt_eq] using this

/-- All that is done one behind the other. -/
def HardsFrom : Option Nat → List Plan → Prop
  | _, [] => True
  | last, p :: ps => (∀ j, last = some j → p.bef.testBit j = true) ∧ HardsFrom (match p.cls with | .hard => some p.i | _ => last) ps
theorem hards_spec : ∀ {l : List Plan} {last : Option Nat}, hardsOk l last = true → HardsFrom last l
  | [], _, _ => trivial
  | p :: l, last, h => by
    unfold hardsOk at h
    split at h
    · rename_i hc
      split at h
      · rename_i j
        split at h <;> (try (cases h; done))
        rename_i hb
        refine ⟨fun j' hj => by cases hj; rw [← has_eq]; exact hb, ?_⟩
        rw [hc]; exact hards_spec h
      · exact ⟨fun j hj => (by cases hj), by rw [hc]; exact hards_spec h⟩
    · rename_i hc
      have hm : (match p.cls with | .hard => some p.i | _ => last) = last := by
        cases hpc : p.cls <;> first | rfl | exact absurd hpc hc
      split at h
      · rename_i j
        split at h <;> (try (cases h; done))
        rename_i hb
        refine ⟨fun j' hj => by cases hj; rw [← has_eq]; exact hb, ?_⟩
        rw [hm]; exact hards_spec h
      · exact ⟨fun j hj => (by cases hj), by rw [hm]; exact hards_spec h⟩

/-- What a plan of a region is. -/
structure PlanFacts (P : Program) (ops : Array Oper) (l : List Plan) : Prop where
  nodup : l.Nodup
  len : l.length = ops.size
  op : ∀ p ∈ l, ops[p.i]? = some p.o ∧ p.cls = clsOf P p.o.op
  idx : ∀ i, i < ops.size → ∃ p ∈ l, p.i = i
  inj : ∀ p ∈ l, ∀ q ∈ l, p.i = q.i → p = q
  bef : ∀ p ∈ l, ∀ j, p.bef.testBit j = true → ∃ e ∈ p.o.after.toList, Region.binds .any e = true ∧ (j = e.on ∨ ∃ q ∈ l, q.i = e.on ∧ q.bef.testBit j = true)
  edge : ∀ p ∈ l, ∀ e ∈ p.o.after.toList, Region.binds .any e = true → e.on < p.i
  once : ∀ p ∈ l, ∀ q ∈ l, ∀ d, p.o.dst = some d → q.o.dst = some d → p = q
  look : ∀ p ∈ l, ∀ t, .tmp t ∈ p.o.op.operands.toList → ∀ q ∈ l, q.o.dst = some t → p.bef.testBit q.i = true ∨ q.bef.testBit p.i = true
  guard : ∀ p ∈ l, ∀ j b, p.o.guard = some (j, b) → p.bef.testBit j = true
  lin : LinFrom 0 l
  hards : HardsFrom none l

theorem plan_facts {ops : Array Oper} {l : List Plan} (h : planOf P ops.toList = some l) : PlanFacts P ops l := by
  unfold planOf at h
  split at h <;> (try (cases h; done))
  rename_i l' hl
  split at h <;> (try (cases h; done))
  rename_i hp
  split at h <;> (try (cases h; done))
  rename_i hh
  cases h
  obtain ⟨tail, e, hperm, hlin⟩ := order_spec _ _ _ _ _ hl
  simp only [List.reverse_nil, List.nil_append] at e
  subst e
  unfold plansOk at hp
  split at hp <;> (try (cases hp; done))
  rename_i ho
  have hm : ∀ p, p ∈ l ↔ p ∈ allPlans P ops.toList := fun p => hperm.mem_iff.symm
  have h1 := fun p hp' => (allB_iff _ _).1 hp p ((hm p).1 hp')
  refine ⟨hperm.nodup_iff.1 (all_nodup P _), by rw [← hperm.length_eq]; unfold allPlans; rw [length_plans P _ _ _ (length_befores _ _ _)]; simp, ?_, ?_, ?_, ?_, fun p hp' => edge_spec (h1 p hp'), ?_, ?_, fun p hp' j b hg => guard_spec (h1 p hp') hg, hlin, hards_spec hh⟩
  · intro p hp'
    obtain ⟨_, q1, _, q2⟩ := mem_all ((hm p).1 hp')
    exact ⟨by rw [← Array.getElem?_toList]; exact q1, q2⟩
  · intro i hi
    obtain ⟨p, q1, q2⟩ := all_mem (P := P) (os := ops.toList) (k := i) (by simpa using hi)
    exact ⟨p, (hm p).2 q1, q2⟩
  · intro p hp' q hq' e
    exact all_inj ((hm p).1 hp') ((hm q).1 hq') e
  · intro p hp' j hj
    obtain ⟨e, q1, q2, q3⟩ := all_bef ((hm p).1 hp') (edge_spec (h1 p hp')) hj
    refine ⟨e, q1, q2, q3.imp id ?_⟩
    rintro ⟨q, m1, m2⟩
    exact ⟨q, (hm q).2 m1, m2⟩
  · intro p hp' q hq' d hd hd'
    exact once_spec ho ((hm p).1 hp') ((hm q).1 hq') hd hd'
  · intro p hp' t ht q hq' hd
    exact look_spec (h1 p hp') ht ((hm q).1 hq') hd
end Go.Eng
end
section
set_option linter.constructorNameAsVariable false
set_option linter.unusedVariables false
set_option linter.unusedSimpArgs false
namespace Go.Eng
variable {P : Program} {γ : Gam}

/-- Whether an operation is wanted, as the ideal sees it. -/
def WantG (γ : Gam) (n : Nat) (ops : Array Oper) (o : Oper) (env : Env) (r : Bool) : Prop := ∀ (ρ : Rho) (a : Go.Act), a.tmps.size = n →
  (∀ j b t f g, o.guard = some (j, b) → (∃ oj, ops[j]? = some oj ∧ oj.dst = some t) → slotT n t = .mk f g → VR ρ γ (f env) (a.tmps.getD t undef)) → Region.wanted o (yielded ops a.tmps) = r

inductive Trace (P : Program) (γ : Gam) (n : Nat) (ops : Array Oper) : List Plan → List Pend → Env → St → Env → St → Prop where
  | nil (pend env s) : Trace P γ n ops [] pend env s env s
  | skip (p ps pend env s g env' s') (hw : WantG γ n ops p.o env false) (hg : outT n p.o.dst = .mk g) (ht : Trace P γ n ops ps pend (g undefI env) s env' s') : Trace P γ n ops (p :: ps) pend env s env' s'
  | pure (p ps pend env s g env' s' fa v) (hc : p.cls = .pure) (hw : WantG γ n ops p.o env true) (hg : outT n p.o.dst = .mk g) (hx : execT P n p.o.op = .mk fa) (hf : PureA fa) (hv : fa noExt noRec env s .ok = .ok v s)
      (ht : Trace P γ n ops ps pend (g v env) s env' s') : Trace P γ n ops (p :: ps) pend env s env' s'
  | read (p ps pend env s g env' s' fa v) (hc : p.cls = .read) (hw : WantG γ n ops p.o env true) (hg : outT n p.o.dst = .mk g) (hx : execT P n p.o.op = .mk fa) (hf : ReadA fa) (hv : fa noExt noRec env s .ok = .ok v s)
      (ht : Trace P γ n ops ps (⟨p.i, fa, v, env⟩ :: pend) (g v env) s env' s') : Trace P γ n ops (p :: ps) pend env s env' s'
  | made (p ps pend env s g env' s' v x) (hc : p.cls = .made) (hw : WantG γ n ops p.o env true) (hg : outT n p.o.dst = .mk g) (hx : x ≠ .dead)
      (hv : ∀ (ρ : Rho) (w : World) (a : Go.Act), ρ s.next = none → OpsR P γ n ρ env a p.o.op.operands.toList →
        ∃ v' ob q j, (execOp a.eval p.o).run P w = .ok (.value v') (pushed (dr j w) ob) ∧ q.blk = w.heap.size ∧ OR P (ρ.with s.next q) γ q x ob ∧ VR (ρ.with s.next q) γ v v')
      (ht : Trace P γ n ops ps pend (g v env) (s.new x) env' s') : Trace P γ n ops (p :: ps) pend env s env' s'
  | hard (p ps pend env s g env' s' v s1) (hc : p.cls = .hard) (hw : WantG γ n ops p.o env true) (hg : outT n p.o.dst = .mk g)
      (hv : ∀ (ρ : Rho) (w : World) (a : Go.Act), Rel P γ ρ s w → Glob P ρ → OpsR P γ n ρ env a p.o.op.operands.toList → Gives P γ ρ s w (execOp a.eval p.o) v s1)
      (hs : stillOk s1 p.bef pend = true) (ht : Trace P γ n ops ps (dropB p.bef pend) (g v env) s1 env' s') : Trace P γ n ops (p :: ps) pend env s env' s'

theorem want_of {n : Nat} {ops : Array Oper} {o : Oper} {env : Env} : match guardT n ops.toList o.guard with
    | .free => WantG γ n ops o env true
    | .never => WantG γ n ops o env false
    | .mk c b => (∀ k, c env ≠ .sym k) → WantG γ n ops o env (wantedV b (c env))
    | .no => True := by
  have h := fun (ρ : Rho) (a : Go.Act) hsz hsl => guard_sim (γ := γ) (n := n) (ρ := ρ) (env := env) (a := a) (ops := ops) (o := o) hsz hsl
  cases hg : guardT n ops.toList o.guard with
  | free => intro ρ a h1 h2; have := h ρ a h1 h2; rw [hg] at this; exact this
  | never => intro ρ a h1 h2; have := h ρ a h1 h2; rw [hg] at this; exact this
  | mk c b => intro hns ρ a h1 h2; have := h ρ a h1 h2; rw [hg] at this; exact this hns
  | no => trivial

theorem trace_of {n : Nat} {ops : Array Oper} {X : Ext} {rec : Rec} (hX : ExtOk P γ X) (hrec : RecOk P γ rec) : ∀ (l : List Plan), (∀ p ∈ l, p.cls = clsOf P p.o.op) → ∀ {F}, plansT P n ops.toList l = .mk F →
    ∀ {pend env s k v1 s1}, F X rec pend env s k = .ok v1 s1 → ∃ pend' env' s', k pend' env' s' = .ok v1 s1 ∧ Trace P γ n ops l pend env s env' s'
  | [], _, F, hF, pend, env, s, k, v1, s1, h => by cases hF; exact ⟨pend, env, s, h, .nil _ _ _⟩
  | p :: ps, hcl, F, hF, pend, env, s, k, v1, s1, h => by
    unfold plansT at hF
    cases h1 : planT P n ops.toList p with
    | mk f =>
      rw [h1] at hF
      simp only at hF
      cases h2 : plansT P n ops.toList ps with
      | mk G =>
        rw [h2] at hF; cases hF
        have ih := fun {pend env s k v1 s1} => trace_of (n := n) (ops := ops) hX hrec ps (fun q hq => hcl q (.tail _ hq)) h2 (pend := pend) (env := env) (s := s) (k := k) (v1 := v1) (s1 := s1)
        have hcls := hcl p (.head _)
        unfold planT at h1
        cases hx : execT P n p.o.op with
        | mk fa =>
          rw [hx] at h1
          simp only at h1
          cases hg : outT n p.o.dst with
          | no => rw [hg] at h1; cases h1; cases h
          | mk g =>
            rw [hg] at h1
            simp only at h1
            have hwant := want_of (γ := γ) (n := n) (ops := ops) (o := p.o) (env := env)
            -- it is run
            have run : WantG γ n ops p.o env true → ∀ {f'}, planAct p fa g = .mk f' → f' X rec pend env s (fun pend env s => G X rec pend env s k) = .ok v1 s1 →
                ∃ pend' env' s', k pend' env' s' = .ok v1 s1 ∧ Trace P γ n ops (p :: ps) pend env s env' s' := by
              intro hw f' hf' hr
              unfold planAct at hf'
              cases hc : p.cls with
              | hard =>
                rw [hc] at hf'; cases hf'
                dsimp only at hr
                obtain ⟨v, s', q1, q2⟩ := exec_ok (P := P) (γ := γ) (n := n) p.o.op fa hx X rec hX hrec env s _ v1 s1 hr
                split at q1 <;> (try (cases q1; done))
                rename_i hst
                obtain ⟨pend', env', s'', q3, q4⟩ := ih q1
                exact ⟨pend', env', s'', q3, .hard p ps pend env s g env' s'' v s' hc hw hg (fun ρ w a hr hgl ho => q2 ρ w a p.o rfl hr hgl ho) hst q4⟩
              | read =>
                rw [hc] at hf'; cases hf'
                have hra := cls_read (P := P) (n := n) p.o.op (hcls ▸ hc) fa hx
                obtain ⟨v, q1, q2⟩ := hra.1 X rec env s _ v1 s1 hr
                obtain ⟨pend', env', s'', q3, q4⟩ := ih q1
                exact ⟨pend', env', s'', q3, .read p ps pend env s g env' s'' fa v hc hw hg hx hra q2 q4⟩
              | pure =>
                rw [hc] at hf'; cases hf'
                have hra := cls_pure (P := P) (n := n) p.o.op (hcls ▸ hc) fa hx
                obtain ⟨v, q1, q2⟩ := hra.1 X rec env s _ v1 s1 hr
                obtain ⟨pend', env', s'', q3, q4⟩ := ih q1
                exact ⟨pend', env', s'', q3, .pure p ps pend env s g env' s'' fa v hc hw hg hx hra q2 q4⟩
              | made =>
                rw [hc] at hf'; cases hf'
                obtain ⟨v, x, q0, q1, q2⟩ := cls_made (P := P) (γ := γ) (n := n) p.o.op (hcls ▸ hc) fa hx X rec env s _ v1 s1 hr
                obtain ⟨pend', env', s'', q3, q4⟩ := ih q1
                exact ⟨pend', env', s'', q3, .made p ps pend env s g env' s'' v x hc hw hg q0 (fun ρ w a hn ho => q2 ρ w a p.o rfl hn ho) q4⟩
            have skip : WantG γ n ops p.o env false → G X rec pend (g undefI env) s k = .ok v1 s1 → ∃ pend' env' s', k pend' env' s' = .ok v1 s1 ∧ Trace P γ n ops (p :: ps) pend env s env' s' := by
              intro hw hr
              obtain ⟨pend', env', s'', q3, q4⟩ := ih hr
              exact ⟨pend', env', s'', q3, .skip p ps pend env s g env' s'' hw hg q4⟩
            unfold planGuard at h1
            cases hgd : guardT n ops.toList p.o.guard with
            | free =>
              rw [hgd] at h1 hwant
              exact run hwant h1 h
            | never =>
              rw [hgd] at h1 hwant; cases h1
              exact skip hwant h
            | no => rw [hgd] at h1; cases h1; cases h
            | mk c b =>
              rw [hgd] at h1 hwant
              simp only at h1 hwant
              cases hpa : planAct p fa g with
              | mk f' =>
                rw [hpa] at h1; cases h1
                obtain ⟨hns, h⟩ := guardR_inv h
                have hwant := hwant hns
                cases hb : wantedV b (c env) with
                | true => rw [hb] at h hwant; exact run hwant hpa h
                | false => rw [hb] at h hwant; exact skip hwant h
end Go.Eng
end
section
set_option linter.constructorNameAsVariable false
set_option linter.unusedVariables false
set_option linter.unusedSimpArgs false
namespace Go.Eng
variable {P : Program} {γ : Gam}

theorem listEq_eq : ∀ {a b : List Nat}, listEq a b = true → a = b
  | [], [], _ => rfl
  | x :: a, y :: b, h => by
    unfold listEq at h
    cases hb : Nat.beq x y with
    | false => rw [hb] at h; cases h
    | true => rw [hb] at h; rw [Nat.eq_of_beq_eq_true hb, listEq_eq h]
  | [], _ :: _, h => by cases h
  | _ :: _, [], h => by cases h

mutual
theorem ieq_eq : ∀ {a b : IV}, ieq a b = true → a = b
  | .bool a, .bool b, h => by simp only [ieq] at h; rw [eq_of_beq h]
  | .int k a, .int k' b, h => by
    simp only [ieq, Bool.and_eq_true] at h
    have h2 := h.2; rw [eqI_eq] at h2
    rw [(kindEq_iff _ _).1 h.1, show a = b by simpa using h2]
  | .str a, .str b, h => by simp only [ieq] at h; rw [listEq_eq h]
  | .nilptr, .nilptr, _ => rfl
  | .ptr a b, .ptr c d, h => by simp only [ieq, Bool.and_eq_true] at h; rw [Nat.eq_of_beq_eq_true h.1, Nat.eq_of_beq_eq_true h.2]
  | .nilsl, .nilsl, _ => rfl
  | .sl a b c d x, .sl a' b' c' d' x', h => by
    simp only [ieq, Bool.and_eq_true] at h
    obtain ⟨⟨⟨⟨h1, h2⟩, h3⟩, h4⟩, h5⟩ := h
    rw [Nat.eq_of_beq_eq_true h1, Nat.eq_of_beq_eq_true h2, Nat.eq_of_beq_eq_true h3, Nat.eq_of_beq_eq_true h4, eq_of_beq h5]
  | .nilmap, .nilmap, _ => rfl
  | .map a, .map b, h => by simp only [ieq] at h; rw [Nat.eq_of_beq_eq_true h]
  | .nilfn, .nilfn, _ => rfl
  | .niliface, .niliface, _ => rfl
  | .iface t v, .iface t' v', h => by simp only [ieq, Bool.and_eq_true] at h; rw [Nat.eq_of_beq_eq_true h.1, ieq_eq h.2]
  | .agg l, .agg l', h => by simp only [ieq] at h; rw [ieqs_eq h]
  | .tup l, .tup l', h => by simp only [ieq] at h; rw [ieqs_eq h]
  | .sym a, .sym b, h => by simp only [ieq] at h; rw [Nat.eq_of_beq_eq_true h]
theorem ieqs_eq : ∀ {a b : List IV}, ieqs a b = true → a = b
  | [], [], _ => rfl
  | x :: a, y :: b, h => by simp only [ieqs, Bool.and_eq_true] at h; rw [ieq_eq h.1, ieqs_eq h.2]
  | [], _ :: _, h => by cases h
  | _ :: _, [], h => by cases h
end

theorem still_spec {s : St} {bef : Nat} : ∀ {l : List Pend}, stillOk s bef l = true → ∀ q ∈ l, bef.testBit q.i = false → sameR q.v (q.f noExt noRec q.env s .ok) = true
  | q :: l, h, q', hq, hb => by
    unfold stillOk at h
    cases hh : has bef q.i with
    | true =>
      rw [hh] at h
      rcases List.mem_cons.1 hq with rfl | hq
      · rw [has_eq, hb] at hh; cases hh
      · exact still_spec h q' hq hb
    | false =>
      rw [hh] at h
      simp only at h
      cases hs : sameR q.v (q.f noExt noRec q.env s .ok) with
      | false => rw [hs] at h; cases h
      | true =>
        rw [hs] at h
        rcases List.mem_cons.1 hq with rfl | hq
        · exact hs
        · exact still_spec h q' hq hb
theorem drop_spec {bef : Nat} : ∀ {l : List Pend} {q : Pend}, q ∈ l → bef.testBit q.i = false → q ∈ dropB bef l
  | q' :: l, q, hq, hb => by
    unfold dropB
    rcases List.mem_cons.1 hq with rfl | hq
    · rw [has_eq, hb]; exact List.mem_cons_self
    · cases has bef q'.i with
      | true => exact drop_spec hq hb
      | false => exact List.mem_cons_of_mem _ (drop_spec hq hb)

/-- What the ideal has done, and the machine not yet. -/
structure Late where
  p : Plan
  v : IV
  env : Env
  ran : Bool
  b : Nat

def Looks (ops : Array Oper) (o : Oper) (t : Nat) : Prop := .tmp t ∈ o.op.operands.toList ∨ ∃ j b oj, o.guard = some (j, b) ∧ ops[j]? = some oj ∧ oj.dst = some t

inductive LateOk (P : Program) (γ : Gam) (n : Nat) (s₀ : St) (ρ : Rho) (s : St) (pend : List Pend) (d : Late) : Prop where
  | skip (hr : d.ran = false) (hv : d.v = undefI)
  | pure (hr : d.ran = true) (hc : d.p.cls = .pure) (fa) (hx : execT P n d.p.o.op = .mk fa) (hf : PureA fa) (hv : fa noExt noRec d.env s .ok = .ok d.v s)
  | read (hr : d.ran = true) (hc : d.p.cls = .read) (fa) (hx : execT P n d.p.o.op = .mk fa) (hf : ReadA fa) (hp : ⟨d.p.i, fa, d.v, d.env⟩ ∈ pend) (hv : fa noExt noRec d.env s .ok = .ok d.v s)
  | made (hr : d.ran = true) (hc : d.p.cls = .made) (hb : ρ d.b = none) (hlt : d.b < s.next) (h0 : s₀.next ≤ d.b)
      (hv : ∀ (ρ : Rho) (w : World) (a : Go.Act), ρ d.b = none → OpsR P γ n ρ d.env a d.p.o.op.operands.toList →
        ∃ v' ob q j, (execOp a.eval d.p.o).run P w = .ok (.value v') (pushed (dr j w) ob) ∧ q.blk = w.heap.size ∧ OR P (ρ.with d.b q) γ q (s.get d.b) ob ∧ VR (ρ.with d.b q) γ d.v v')

structure Inv (P : Program) (γ : Gam) (n : Nat) (ops : Array Oper) (l : List Plan) (s₀ : St) (ρ₀ : Rho) (w₀ : World) (D : List Late) (rest : List Plan) (pend : List Pend) (env : Env) (s : St) (L : Array Bool)
    (ρ : Rho) (a : Go.Act) (w : World) (done : Nat) (last : Option Nat) : Prop where
  rel : Rel P γ ρ s w
  glob : Glob P ρ
  goes : Goes ρ₀ s₀ w₀ ρ s w
  size : a.tmps.size = n
  defers : a.defers = []
  Lsize : L.size = ops.size
  Lspec : ∀ q ∈ l, L.getD q.i false = true ↔ q ∉ D.map (·.p) ∧ q ∉ rest
  closed : ∀ q ∈ l, L.getD q.i false = true → ∀ q' ∈ l, q.bef.testBit q'.i = true → L.getD q'.i false = true
  subD : ∀ d ∈ D, d.p ∈ l
  subR : ∀ q ∈ rest, q ∈ l
  nodup : (D.map (·.p) ++ rest).Nodup
  lin : LinFrom done rest
  doneR : ∀ q ∈ rest, done.testBit q.i = false
  dord : ∀ d ∈ D, ∀ q ∈ rest, d.p.bef.testBit q.i = false
  hards : HardsFrom last rest
  lastL : ∀ j, last = some j → ∃ h ∈ l, h.i = j ∧ h ∉ rest
  slots : ∀ t f g, slotT n t = .mk f g → (∃ d ∈ D, d.p.o.dst = some t) ∨ VR ρ γ (f env) (a.tmps.getD t undef)
  vals : ∀ d ∈ D, ∀ t f g, d.p.o.dst = some t → slotT n t = .mk f g → f env = d.v
  dslots : ∀ d ∈ D, ∀ t f g, Looks ops d.p.o t → slotT n t = .mk f g → (∃ d2 ∈ D, d2.p.o.dst = some t ∧ d.p.bef.testBit d2.p.i = true) ∨ VR ρ γ (f d.env) (a.tmps.getD t undef)
  dvals : ∀ d ∈ D, ∀ d2 ∈ D, ∀ t f g, d.p.bef.testBit d2.p.i = true → d2.p.o.dst = some t → slotT n t = .mk f g → f d.env = d2.v
  late : ∀ d ∈ D, LateOk P γ n s₀ ρ s pend d
  want : ∀ d ∈ D, WantG γ n ops d.p.o d.env d.ran
  outs : ∀ d ∈ D, ∃ g, outT n d.p.o.dst = .mk g
  blocks : ∀ d ∈ D, ∀ d2 ∈ D, d.p.cls = .made → d2.p.cls = .made → d.ran = true → d2.ran = true → d.p ≠ d2.p → d.b ≠ d2.b

variable {n : Nat} {ops : Array Oper} {l : List Plan} {s₀ : St} {ρ₀ : Rho} {w₀ : World}

theorem looks_spec (hF : PlanFacts P ops l) {p q : Plan} {t : Nat} (hp : p ∈ l) (hl : Looks ops p.o t) (hq : q ∈ l) (hd : q.o.dst = some t) : p.bef.testBit q.i = true ∨ q.bef.testBit p.i = true := by
  rcases hl with hl | ⟨j, b, oj, h1, h2, h3⟩
  · exact hF.look p hp t hl q hq hd
  · left
    have hj : j < ops.size := (Array.getElem?_eq_some_iff.1 h2).1
    obtain ⟨r, hr1, hr2⟩ := hF.idx j hj
    have hro := (hF.op r hr1).1
    rw [hr2, h2] at hro
    have : r.o.dst = some t := by rw [← Option.some.inj hro]; exact h3
    have := hF.once q hq r hr1 t hd this
    subst this
    rw [hr2]
    exact hF.guard p hp j b h1

theorem put_other {g : IV → Env → Env} {dst : Option Nat} {t : Nat} {f g' } {v : IV} {env : Env} (hg : outT n dst = .mk g) (ht : slotT n t = .mk f g') (hne : dst ≠ some t) : f (g v env) = f env := by
  rcases outT_inv hg with ⟨rfl, rfl⟩ | ⟨d, f', rfl, hs⟩
  · rfl
  · rw [slot_put hs ht, if_neg (fun e => hne (by rw [e]))]
theorem put_same {g : IV → Env → Env} {t : Nat} {f g' } {v : IV} {env : Env} (hg : outT n (some t) = .mk g) (ht : slotT n t = .mk f g') : f (g v env) = v := by
  rcases outT_inv hg with ⟨h, _⟩ | ⟨d, f', h, hs⟩
  · cases h
  · cases h; rw [slot_put hs ht, if_pos rfl]

/-- The ideal goes on by an operation that may come late. -/
theorem Inv.absorb (hF : PlanFacts P ops l) {D : List Late} {p : Plan} {ps : List Plan} {pend pend' : List Pend} {env : Env} {s s' : St} {L : Array Bool} {ρ : Rho} {a : Go.Act} {w : World} {done : Nat} {last : Option Nat}
    (h : Inv P γ n ops l s₀ ρ₀ w₀ D (p :: ps) pend env s L ρ a w done last) {g : IV → Env → Env} (hg : outT n p.o.dst = .mk g) (d : Late) (hd1 : d.p = p) (hd2 : d.env = env)
    (hrel : Rel P γ ρ s' w) (hgoes : Goes ρ₀ s₀ w₀ ρ s' w) (hlate : ∀ d' ∈ D, LateOk P γ n s₀ ρ s' pend' d') (hd : LateOk P γ n s₀ ρ s' pend' d) (hw : WantG γ n ops p.o env d.ran)
    (hblk : d.p.cls = .made → d.ran = true → ∀ d2 ∈ D, d2.p.cls = .made → d2.ran = true → d.b ≠ d2.b) :
    Inv P γ n ops l s₀ ρ₀ w₀ (d :: D) ps pend' (g d.v env) s' L ρ a w (done ||| 2 ^ p.i) (match p.cls with | .hard => some p.i | _ => last) := by
  subst hd1
  have hpl := h.subR d.p List.mem_cons_self
  have hnd := h.nodup
  have hperm : (D.map (·.p) ++ d.p :: ps).Perm ((d :: D).map (·.p) ++ ps) := by
    rw [List.map_cons, List.cons_append]; exact List.perm_middle
  have hnd' := hperm.nodup_iff.1 hnd
  have hnotD : d.p ∉ D.map (·.p) := fun hm => by
    have := (List.nodup_cons.1 (by rw [List.map_cons, List.cons_append] at hnd'; exact hnd')).1
    exact this (List.mem_append_left _ hm)
  have hnotR : d.p ∉ ps := fun hm => by
    have := (List.nodup_cons.1 (by rw [List.map_cons, List.cons_append] at hnd'; exact hnd')).1
    exact this (List.mem_append_right _ hm)
  have hself : d.p.bef.testBit d.p.i = false := by
    cases hb : d.p.bef.testBit d.p.i with
    | false => rfl
    | true => have := ready_bits h.lin.1 _ hb; rw [h.doneR d.p List.mem_cons_self] at this; cases this
  have hne : ∀ d2 ∈ D, ∀ t, d2.p.o.dst = some t → d.p.o.dst ≠ some t := fun d2 h2 t ht he => by
    have := hF.once d2.p (h.subD d2 h2) d.p hpl t ht he
    exact hnotD (this ▸ List.mem_map_of_mem h2)
  refine ⟨hrel, h.glob, hgoes, h.size, h.defers, h.Lsize, ?_, h.closed, ?_, fun q hq => h.subR q (List.mem_cons_of_mem _ hq), hnd', h.lin.2, ?_, ?_, ?_, ?_, ?_, ?_, ?_, ?_, ?_, ?_, ?_, ?_⟩
  · intro q hq
    rw [h.Lspec q hq]
    simp only [List.map_cons, List.mem_cons, not_or]
    constructor
    · rintro ⟨h1, h2, h3⟩; exact ⟨⟨h2, h1⟩, h3⟩
    · rintro ⟨⟨h2, h1⟩, h3⟩; exact ⟨h1, h2, h3⟩
  · intro d2 h2
    rcases List.mem_cons.1 h2 with rfl | h2
    · exact hpl
    · exact h.subD d2 h2
  · intro q hq
    rw [Nat.testBit_or, h.doneR q (List.mem_cons_of_mem _ hq), Nat.testBit_two_pow, Bool.false_or]
    refine decide_eq_false fun e => ?_
    have := hF.inj d.p hpl q (h.subR q (List.mem_cons_of_mem _ hq)) e
    exact hnotR (this ▸ hq)
  · intro d2 h2 q hq
    rcases List.mem_cons.1 h2 with rfl | h2
    · cases hb : d2.p.bef.testBit q.i with
      | false => rfl
      | true => have := ready_bits h.lin.1 _ hb; rw [h.doneR q (List.mem_cons_of_mem _ hq)] at this; cases this
    · exact h.dord d2 h2 q (List.mem_cons_of_mem _ hq)
  · exact h.hards.2
  · intro j hj
    have hold : last = some j → ∃ x ∈ l, x.i = j ∧ x ∉ ps := fun hj => by
      obtain ⟨x, h1, h2, h3⟩ := h.lastL j hj
      exact ⟨x, h1, h2, fun hm => h3 (List.mem_cons_of_mem _ hm)⟩
    cases hcc : d.p.cls <;> rw [hcc] at hj <;> first
      | exact hold hj
      | (cases hj; exact ⟨d.p, hpl, rfl, hnotR⟩)
  · intro t f g' ht
    by_cases e : d.p.o.dst = some t
    · exact .inl ⟨d, List.mem_cons_self, e⟩
    · rw [put_other hg ht e]
      rcases h.slots t f g' ht with ⟨d2, h1, h2⟩ | h1
      · exact .inl ⟨d2, List.mem_cons_of_mem _ h1, h2⟩
      · exact .inr h1
  · intro d2 h2 t f g' ht hs
    rcases List.mem_cons.1 h2 with rfl | h2
    · rw [ht] at hg; exact put_same hg hs
    · rw [put_other hg hs (hne d2 h2 t ht)]
      exact h.vals d2 h2 t f g' ht hs
  · intro d2 h2 t f g' hl hs
    rcases List.mem_cons.1 h2 with rfl | h2
    · rw [hd2]
      rcases h.slots t f g' hs with ⟨d3, h3, h4⟩ | h3
      · left
        refine ⟨d3, List.mem_cons_of_mem _ h3, h4, ?_⟩
        rcases looks_spec hF hpl hl (h.subD d3 h3) h4 with h5 | h5
        · exact h5
        · rw [h.dord d3 h3 d2.p List.mem_cons_self] at h5; cases h5
      · exact .inr h3
    · rcases h.dslots d2 h2 t f g' hl hs with ⟨d3, h3, h4⟩ | h3
      · exact .inl ⟨d3, List.mem_cons_of_mem _ h3, h4⟩
      · exact .inr h3
  · intro d2 h2 d3 h3 t f g' hb hdst hs
    rcases List.mem_cons.1 h2 with e2 | k2
    · rcases List.mem_cons.1 h3 with e3 | k3
      · rw [e2, e3, hself] at hb; cases hb
      · rw [e2, hd2]; exact h.vals d3 k3 t f g' hdst hs
    · rcases List.mem_cons.1 h3 with e3 | k3
      · rw [e3, h.dord d2 k2 d.p List.mem_cons_self] at hb; cases hb
      · exact h.dvals d2 k2 d3 k3 t f g' hb hdst hs
  · intro d2 h2
    rcases List.mem_cons.1 h2 with rfl | h2
    · exact hd
    · exact hlate d2 h2
  · intro d2 h2
    rcases List.mem_cons.1 h2 with rfl | h2
    · rw [hd2]; exact hw
    · exact h.want d2 h2
  · intro d2 h2
    rcases List.mem_cons.1 h2 with rfl | h2
    · exact ⟨g, hg⟩
    · exact h.outs d2 h2
  · intro d2 h2 d3 h3 c2 c3 r2 r3 hne'
    rcases List.mem_cons.1 h2 with e2 | k2
    · rcases List.mem_cons.1 h3 with e3 | k3
      · exact absurd (by rw [e2, e3]) hne'
      · subst e2; exact hblk c2 r2 d3 k3 c3 r3
    · rcases List.mem_cons.1 h3 with e3 | k3
      · subst e3; exact (hblk c3 r3 d2 k2 c2 r2).symm
      · exact h.blocks d2 k2 d3 k3 c2 c3 r2 r3 hne'
end Go.Eng
end
section
set_option linter.constructorNameAsVariable false
set_option linter.unusedVariables false
set_option linter.unusedSimpArgs false
namespace Go.Eng
variable {P : Program} {γ : Gam}
variable {n : Nat} {ops : Array Oper} {l : List Plan} {s₀ : St} {ρ₀ : Rho} {w₀ : World}

theorem getD_set (L : Array Bool) (i j : Nat) (hi : i < L.size) (b : Bool) : (L.setIfInBounds i true).getD j b = if j = i then true else L.getD j b := by
  rw [Array.getD_eq_getD_getElem?, Array.getD_eq_getD_getElem?, Array.getElem?_setIfInBounds]
  by_cases h : i = j
  · subst h; simp [hi]
  · simp [h, Ne.symm h]

/-- What is ready has all that must stand ahead of it done. -/
theorem ready_bef (hF : PlanFacts P ops l) {D rest pend env s L ρ a w done last} (h : Inv P γ n ops l s₀ ρ₀ w₀ D rest pend env s L ρ a w done last) {p : Plan} (hp : p ∈ l) (hr : p.i ∈ Region.ready .any ops L) :
    L.getD p.i false = false ∧ ∀ q ∈ l, p.bef.testBit q.i = true → L.getD q.i false = true := by
  obtain ⟨h1, o, h2, h3⟩ := mem_ready.1 hr
  have hop := (hF.op p hp).1
  rw [h2] at hop
  have ho := Option.some.inj hop
  have hlt : p.i < L.size := by rw [h.Lsize]; exact (Array.getElem?_eq_some_iff.1 h2).1
  refine ⟨?_, fun q hq hb => ?_⟩
  · rw [Array.getD_eq_getD_getElem?] at h1 ⊢
    rw [Array.getElem?_eq_getElem hlt] at h1 ⊢
    exact h1
  · obtain ⟨e, he, hbe, h4⟩ := hF.bef p hp q.i hb
    have h5 := h3 e (by rw [ho]; exact Array.mem_toList_iff.1 he) hbe
    rcases h4 with h4 | ⟨r, hr1, hr2, hr3⟩
    · rw [h4]; exact h5
    · exact h.closed r hr1 (by rw [hr2]; exact h5) q hq hr3

/-- What is listed from here on. -/
theorem closed_set (hF : PlanFacts P ops l) {L : Array Bool} {p : Plan} (hp : p ∈ l) (hlt : p.i < L.size) (hc : ∀ q ∈ l, L.getD q.i false = true → ∀ q' ∈ l, q.bef.testBit q'.i = true → L.getD q'.i false = true)
    (hb : ∀ q ∈ l, p.bef.testBit q.i = true → L.getD q.i false = true) : ∀ q ∈ l, (L.setIfInBounds p.i true).getD q.i false = true → ∀ q' ∈ l, q.bef.testBit q'.i = true → (L.setIfInBounds p.i true).getD q'.i false = true := by
  intro q hq h1 q' hq' h2
  rw [getD_set _ _ _ hlt] at h1 ⊢
  split
  · rfl
  · by_cases e : q.i = p.i
    · have := hF.inj q hq p hp e
      subst this
      exact hb q' hq' h2
    · rw [if_neg e] at h1
      exact hc q hq h1 q' hq' h2

theorem Lspec_set (hF : PlanFacts P ops l) {L : Array Bool} {p : Plan} {A B : List Plan} (hp : p ∈ l) (hlt : p.i < L.size) (hL : ∀ q ∈ l, L.getD q.i false = true ↔ q ∉ A) (hB : ∀ q, q ∈ A ↔ q = p ∨ q ∈ B) (hpB : p ∉ B) :
    ∀ q ∈ l, (L.setIfInBounds p.i true).getD q.i false = true ↔ q ∉ B := by
  intro q hq
  rw [getD_set _ _ _ hlt]
  by_cases e : q.i = p.i
  · have := hF.inj q hq p hp e
    subst this
    simp [hpB]
  · rw [if_neg e, hL q hq, hB]
    have : q ≠ p := fun h => e (by rw [h])
    simp [this]

/-- An operation's operands, when all ahead of it is done. -/
theorem ops_of {n : Nat} {ρ : Rho} {env : Env} {a : Go.Act} {o : Oper} (hg : Glob P ρ) (hs : ∀ t f g, Looks ops o t → slotT n t = .mk f g → VR ρ γ (f env) (a.tmps.getD t undef)) : OpsR P γ n ρ env a o.op.operands.toList := by
  intro x hx
  cases x with
  | tmp t => exact ev_tmp fun f g h => hs t f g (.inl hx) h
  | const v => exact ev_const
  | global g => exact ev_global hg
  | func f => exact ev_func

/-- One that comes late is done. -/
theorem Inv.doLate (hF : PlanFacts P ops l) {D₁ D₂ : List Late} {d : Late} {rest pend env s L ρ a w done last} (h : Inv P γ n ops l s₀ ρ₀ w₀ (D₁ ++ d :: D₂) rest pend env s L ρ a w done last) (hr : d.p.i ∈ Region.ready .any ops L)
    (K : Go.Act → World → Prop) (Q : Exit → Go.Act → World → Prop) (hK : ∀ ρ' a' w', Inv P γ n ops l s₀ ρ₀ w₀ (D₁ ++ D₂) rest pend env s (L.setIfInBounds d.p.i true) ρ' a' w' done last → K a' w') :
    wpOp P ops Q d.p.i K a w := by
  have hdD : d ∈ D₁ ++ d :: D₂ := by simp
  have hpl := h.subD d hdD
  obtain ⟨hL0, hbef⟩ := ready_bef hF h hpl hr
  have hop := (hF.op d.p hpl).1
  have hlt : d.p.i < L.size := by rw [h.Lsize]; exact (Array.getElem?_eq_some_iff.1 hop).1
  have hsub : ∀ x, x ∈ D₁ ++ D₂ → x ∈ D₁ ++ d :: D₂ := fun x hx => by
    rcases List.mem_append.1 hx with hx | hx <;> simp [hx]
  have hcase : ∀ x, x ∈ D₁ ++ d :: D₂ → x = d ∨ x ∈ D₁ ++ D₂ := fun x hx => by
    rcases List.mem_append.1 hx with hx | hx
    · exact .inr (List.mem_append_left _ hx)
    · rcases List.mem_cons.1 hx with hx | hx
      · exact .inl hx
      · exact .inr (List.mem_append_right _ hx)
  have hperm : ((D₁ ++ d :: D₂).map (·.p) ++ rest).Perm (d.p :: ((D₁ ++ D₂).map (·.p) ++ rest)) := by
    simp only [List.map_append, List.map_cons, List.append_assoc, List.cons_append]
    exact List.perm_middle
  have hnd := List.nodup_cons.1 (hperm.nodup_iff.1 h.nodup)
  have hnot : ∀ x ∈ D₁ ++ D₂, x.p ≠ d.p := fun x hx e => hnd.1 (List.mem_append_left _ (e ▸ List.mem_map_of_mem hx))
  -- what is done is in none of both
  have hdone : ∀ x ∈ D₁ ++ d :: D₂, L.getD x.p.i false = true → False := fun x hx hLx =>
    ((h.Lspec x.p (h.subD x hx)).1 hLx).1 (List.mem_map_of_mem hx)
  have hlook : ∀ t f g, Looks ops d.p.o t → slotT n t = .mk f g → VR ρ γ (f d.env) (a.tmps.getD t undef) := by
    intro t f g hlk hs
    rcases h.dslots d hdD t f g hlk hs with ⟨d2, h1, h2, h3⟩ | h1
    · exact absurd (hbef d2.p (h.subD d2 h1) h3) (fun hh => hdone d2 h1 hh)
    · exact h1
  have hops : OpsR P γ n ρ d.env a d.p.o.op.operands.toList := ops_of h.glob hlook
  have hwant := h.want d hdD ρ a h.size (fun j b t f g hg ⟨oj, h1, h2⟩ hs => hlook t f g (.inr ⟨j, b, oj, hg, h1, h2⟩) hs)
  obtain ⟨g, hout⟩ := h.outs d hdD
  -- it has been done
  have fin : ∀ ρ' w' v', Le ρ ρ' → Rel P γ ρ' s w' → Goes ρ₀ s₀ w₀ ρ' s w' → VR ρ' γ d.v v' → (∀ d2 ∈ D₁ ++ D₂, LateOk P γ n s₀ ρ' s pend d2) → K (a.put d.p.o.dst v') w' := by
    intro ρ' w' v' hle hrel hgoes hv hlate
    have hsame : ∀ t f g', slotT n t = .mk f g' → d.p.o.dst ≠ some t → (a.put d.p.o.dst v').tmps.getD t undef = a.tmps.getD t undef := by
      intro t f g' hs hne
      rcases outT_inv hout with ⟨h1, _⟩ | ⟨t', f', h1, h2⟩
      · rw [h1]; rfl
      · rw [h1, getD_put (by rw [h.size]; exact slot_lt h2), if_neg (fun e => hne (by rw [h1, e]))]
    have hnew : ∀ t f g', slotT n t = .mk f g' → d.p.o.dst = some t → (a.put d.p.o.dst v').tmps.getD t undef = v' := by
      intro t f g' hs he
      rw [he, getD_put (by rw [h.size]; exact slot_lt hs), if_pos rfl]
    refine hK ρ' _ w' ⟨hrel, h.glob.mono hle, hgoes, ?_, ?_, by rw [Array.size_setIfInBounds]; exact h.Lsize, ?_, closed_set hF hpl hlt h.closed hbef, fun x hx => h.subD x (hsub x hx), h.subR, hnd.2, h.lin, h.doneR,
      fun x hx => h.dord x (hsub x hx), h.hards, h.lastL, ?_, fun x hx => h.vals x (hsub x hx), ?_, fun x hx y hy => h.dvals x (hsub x hx) y (hsub y hy), hlate, fun x hx => h.want x (hsub x hx), fun x hx => h.outs x (hsub x hx),
      fun x hx y hy => h.blocks x (hsub x hx) y (hsub y hy)⟩
    · cases d.p.o.dst <;> simp [Act.put, h.size]
    · cases d.p.o.dst <;> simp [Act.put, h.defers]
    · have := Lspec_set hF (A := (D₁ ++ d :: D₂).map (·.p) ++ rest) (B := (D₁ ++ D₂).map (·.p) ++ rest) hpl hlt (fun q hq => by rw [h.Lspec q hq]; simp only [List.mem_append, not_or])
        (fun q => by rw [hperm.mem_iff, List.mem_cons]) hnd.1
      intro q hq
      rw [this q hq]
      simp only [List.mem_append, not_or]
    · intro t f g' hs
      by_cases e : d.p.o.dst = some t
      · right
        rw [hnew t f g' hs e, h.vals d hdD t f g' e hs]
        exact hv
      · rw [hsame t f g' hs e]
        rcases h.slots t f g' hs with ⟨d2, h1, h2⟩ | h1
        · rcases hcase d2 h1 with rfl | h1
          · exact absurd h2 e
          · exact .inl ⟨d2, h1, h2⟩
        · exact .inr (h1.mono hle)
    · intro d2 h2 t f g' hlk hs
      by_cases e : d.p.o.dst = some t
      · right
        rw [hnew t f g' hs e]
        rcases looks_spec hF (h.subD d2 (hsub d2 h2)) hlk hpl e with h3 | h3
        · rw [h.dvals d2 (hsub d2 h2) d hdD t f g' h3 e hs]; exact hv
        · exact absurd (hbef d2.p (h.subD d2 (hsub d2 h2)) h3) (fun hh => hdone d2 (hsub d2 h2) hh)
      · rw [hsame t f g' hs e]
        rcases h.dslots d2 (hsub d2 h2) t f g' hlk hs with ⟨d3, h3, h4, h5⟩ | h3
        · rcases hcase d3 h3 with rfl | h3
          · exact absurd h4 e
          · exact .inl ⟨d3, h3, h4, h5⟩
        · exact .inr (h3.mono hle)
  unfold wpOp
  simp only [hop, hwant]
  have keep : ∀ ρ', (∀ b, b < s.next → ρ b = none → b ≠ d.b ∨ d.p.cls ≠ .made ∨ d.ran = false → ρ' b = none) → ∀ d2 ∈ D₁ ++ D₂, LateOk P γ n s₀ ρ' s pend d2 := by
    intro ρ' hk d2 h2
    cases h.late d2 (hsub d2 h2) with
    | skip q1 q2 => exact .skip q1 q2
    | pure q1 q2 fa q3 q4 q5 => exact .pure q1 q2 fa q3 q4 q5
    | read q1 q2 fa q3 q4 q5 q6 => exact .read q1 q2 fa q3 q4 q5 q6
    | made q1 q2 q3 q4 q5 q6 =>
      refine .made q1 q2 (hk d2.b q4 q3 ?_) q4 q5 q6
      by_cases hm : d.p.cls = .made
      · cases hrn : d.ran with
        | false => exact .inr (.inr rfl)
        | true => exact .inl (h.blocks d2 (hsub d2 h2) d hdD q2 hm q1 hrn (hnot d2 h2))
      · exact .inr (.inl hm)
  cases h.late d hdD with
  | skip q1 q2 =>
    rw [q1]
    simp only [Bool.false_eq_true, if_false]
    exact fin ρ w undef (Le.refl ρ) h.rel h.goes (by rw [q2]; exact .tup [] #[] .nil) (keep ρ fun b _ hb _ => hb)
  | pure q1 q2 fa q3 q4 q5 =>
    rw [q1]
    simp only [if_true]
    obtain ⟨v, s', m1, m2⟩ := exec_ok (P := P) (γ := γ) (n := n) d.p.o.op fa q3 noExt noRec (fun _ _ _ _ _ h => by cases h) (fun _ _ _ _ _ _ h => by cases h) d.env s .ok d.v s q5
    cases m1
    refine .inl ((m2 ρ w a d.p.o rfl h.rel h.glob hops).wp ?_)
    intro ρ' w' v' g1 g2 g3
    exact fin ρ' w' v' g1.le g2 (h.goes.trans g1) g3 (keep ρ' fun b hb hn _ => (g1.unborn b hb hn).1)
  | read q1 q2 fa q3 q4 q5 q6 =>
    rw [q1]
    simp only [if_true]
    obtain ⟨v, s', m1, m2⟩ := exec_ok (P := P) (γ := γ) (n := n) d.p.o.op fa q3 noExt noRec (fun _ _ _ _ _ h => by cases h) (fun _ _ _ _ _ _ h => by cases h) d.env s .ok d.v s q6
    cases m1
    refine .inl ((m2 ρ w a d.p.o rfl h.rel h.glob hops).wp ?_)
    intro ρ' w' v' g1 g2 g3
    exact fin ρ' w' v' g1.le g2 (h.goes.trans g1) g3 (keep ρ' fun b hb hn _ => (g1.unborn b hb hn).1)
  | made q1 q2 q3 q4 q5 q6 =>
    rw [q1]
    simp only [if_true]
    obtain ⟨v', ob, q, j, m1, m2, m3, m4⟩ := q6 ρ w a q3 hops
    have m2 : q.blk = (dr j w).heap.size := by rw [dr_size]; exact m2
    refine .inl ?_
    unfold Oper.wp
    rw [m1]
    refine fin (ρ.with d.b q) _ v' (le_with_none q3) ((h.rel.dr j).born q3 q4 m2 m3) ((h.goes.dr j).born' q3 q5 m2 ob) m4 (keep _ ?_)
    intro b hb hn hne
    rcases hne with hne | hne | hne
    · rw [Rho.with_other _ _ hne]; exact hn
    · exact absurd q2 hne
    · rw [q1] at hne; cases hne
end Go.Eng
end
section
set_option linter.constructorNameAsVariable false
set_option linter.unusedVariables false
set_option linter.unusedSimpArgs false
namespace Go.Eng
variable {P : Program} {γ : Gam}
variable {n : Nat} {ops : Array Oper} {l : List Plan} {s₀ : St} {ρ₀ : Rho} {w₀ : World}

/-- One that leaves its mark is done. -/
theorem Inv.doHard (hF : PlanFacts P ops l) {D : List Late} {p : Plan} {ps pend env s L ρ a w done last} (h : Inv P γ n ops l s₀ ρ₀ w₀ D (p :: ps) pend env s L ρ a w done last) (hr : p.i ∈ Region.ready .any ops L) (hc : p.cls = .hard)
    {g : IV → Env → Env} (hout : outT n p.o.dst = .mk g) {v : IV} {s1 : St} (hw : WantG γ n ops p.o env true)
    (hv : ∀ (ρ : Rho) (w : World) (a : Go.Act), Rel P γ ρ s w → Glob P ρ → OpsR P γ n ρ env a p.o.op.operands.toList → Gives P γ ρ s w (execOp a.eval p.o) v s1) (hst : stillOk s1 p.bef pend = true)
    (K : Go.Act → World → Prop) (Q : Exit → Go.Act → World → Prop) (hK : ∀ ρ' a' w', Inv P γ n ops l s₀ ρ₀ w₀ D ps (dropB p.bef pend) (g v env) s1 (L.setIfInBounds p.i true) ρ' a' w' (done ||| 2 ^ p.i) (some p.i) → K a' w') :
    wpOp P ops Q p.i K a w := by
  have hpl := h.subR p List.mem_cons_self
  obtain ⟨hL0, hbef⟩ := ready_bef hF h hpl hr
  have hop := (hF.op p hpl).1
  have hlt : p.i < L.size := by rw [h.Lsize]; exact (Array.getElem?_eq_some_iff.1 hop).1
  have hperm : (D.map (·.p) ++ p :: ps).Perm (p :: (D.map (·.p) ++ ps)) := List.perm_middle
  have hnd := List.nodup_cons.1 (hperm.nodup_iff.1 h.nodup)
  have hnotD : ∀ x ∈ D, x.p ≠ p := fun x hx e => hnd.1 (List.mem_append_left _ (e ▸ List.mem_map_of_mem hx))
  have hnotR : p ∉ ps := fun hx => hnd.1 (List.mem_append_right _ hx)
  have hdone : ∀ x ∈ D, L.getD x.p.i false = true → False := fun x hx hLx => ((h.Lspec x.p (h.subD x hx)).1 hLx).1 (List.mem_map_of_mem hx)
  have hbD : ∀ x ∈ D, p.bef.testBit x.p.i = false := fun x hx => by
    cases hb : p.bef.testBit x.p.i with
    | false => rfl
    | true => exact absurd (hbef x.p (h.subD x hx) hb) (fun hh => hdone x hx hh)
  have hlook : ∀ t f g, Looks ops p.o t → slotT n t = .mk f g → VR ρ γ (f env) (a.tmps.getD t undef) := by
    intro t f g hlk hs
    rcases h.slots t f g hs with ⟨d2, h1, h2⟩ | h1
    · rcases looks_spec hF hpl hlk (h.subD d2 h1) h2 with h3 | h3
      · rw [hbD d2 h1] at h3; cases h3
      · rw [h.dord d2 h1 p List.mem_cons_self] at h3; cases h3
    · exact h1
  have hops : OpsR P γ n ρ env a p.o.op.operands.toList := ops_of h.glob hlook
  have hwant := hw ρ a h.size (fun j b t f g hg ⟨oj, h1, h2⟩ hs => hlook t f g (.inr ⟨j, b, oj, hg, h1, h2⟩) hs)
  unfold wpOp
  simp only [hop, hwant, if_true]
  refine .inl ((hv ρ w a h.rel h.glob hops).wp ?_)
  intro ρ' w' v' hgo hrel hvr
  have hle := hgo.le
  have hsame : ∀ t f g', slotT n t = .mk f g' → p.o.dst ≠ some t → (a.put p.o.dst v').tmps.getD t undef = a.tmps.getD t undef := by
    intro t f g' hs hne
    rcases outT_inv hout with ⟨h1, _⟩ | ⟨t', f', h1, h2⟩
    · rw [h1]; rfl
    · rw [h1, getD_put (by rw [h.size]; exact slot_lt h2), if_neg (fun e => hne (by rw [h1, e]))]
  have hnew : ∀ t f g', slotT n t = .mk f g' → p.o.dst = some t → (a.put p.o.dst v').tmps.getD t undef = v' := by
    intro t f g' hs he
    rw [he, getD_put (by rw [h.size]; exact slot_lt hs), if_pos rfl]
  refine hK ρ' _ w' ⟨hrel, h.glob.mono hle, h.goes.trans hgo, ?_, ?_, by rw [Array.size_setIfInBounds]; exact h.Lsize, ?_, closed_set hF hpl hlt h.closed hbef, h.subD, fun q hq => h.subR q (List.mem_cons_of_mem _ hq), hnd.2, h.lin.2, ?_,
    fun x hx q hq => h.dord x hx q (List.mem_cons_of_mem _ hq), ?_, ?_, ?_, ?_, ?_, h.dvals, ?_, h.want, h.outs, h.blocks⟩
  · cases p.o.dst <;> simp [Act.put, h.size]
  · cases p.o.dst <;> simp [Act.put, h.defers]
  · have := Lspec_set hF (A := D.map (·.p) ++ p :: ps) (B := D.map (·.p) ++ ps) hpl hlt (fun q hq => by rw [h.Lspec q hq]; simp only [List.mem_append, not_or])
      (fun q => by rw [hperm.mem_iff, List.mem_cons]) hnd.1
    intro q hq
    rw [this q hq]
    simp only [List.mem_append, not_or]
  · intro q hq
    rw [Nat.testBit_or, h.doneR q (List.mem_cons_of_mem _ hq), Nat.testBit_two_pow, Bool.false_or]
    refine decide_eq_false fun e => ?_
    have := hF.inj p hpl q (h.subR q (List.mem_cons_of_mem _ hq)) e
    exact hnotR (this ▸ hq)
  · have := h.hards.2
    rw [hc] at this
    exact this
  · intro j hj
    cases hj
    exact ⟨p, hpl, rfl, hnotR⟩
  · intro t f g' hs
    by_cases e : p.o.dst = some t
    · right
      rw [hnew t f g' hs e]
      have : f (g v env) = v := by rw [e] at hout; exact put_same hout hs
      rw [this]; exact hvr
    · rw [hsame t f g' hs e, put_other hout hs e]
      rcases h.slots t f g' hs with h1 | h1
      · exact .inl h1
      · exact .inr (h1.mono hle)
  · intro d hd t f g' ht hs
    have e : p.o.dst ≠ some t := fun e => hnotD d hd (hF.once d.p (h.subD d hd) p hpl t ht e)
    rw [put_other hout hs e]
    exact h.vals d hd t f g' ht hs
  · intro d hd t f g' hlk hs
    have e : p.o.dst ≠ some t := fun e => by
      rcases looks_spec hF (h.subD d hd) hlk hpl e with h3 | h3
      · rw [h.dord d hd p List.mem_cons_self] at h3; cases h3
      · rw [hbD d hd] at h3; cases h3
    rw [hsame t f g' hs e]
    rcases h.dslots d hd t f g' hlk hs with h1 | h1
    · exact .inl h1
    · exact .inr (h1.mono hle)
  · intro d hd
    cases h.late d hd with
    | skip q1 q2 => exact .skip q1 q2
    | pure q1 q2 fa q3 q4 q5 => exact .pure q1 q2 fa q3 q4 (q4.2 _ _ _ q5 s1)
    | read q1 q2 fa q3 q4 q5 q6 =>
      refine .read q1 q2 fa q3 q4 (drop_spec q5 (hbD d hd)) ?_
      have hs := still_spec hst _ q5 (hbD d hd)
      simp only at hs
      unfold sameR at hs
      split at hs <;> (try (cases hs; done))
      rename_i v'' s'' hfa
      have e1 := ieq_eq hs
      have e2 := q4.2.2 _ _ _ _ hfa
      rw [hfa, e1, e2]
    | made q1 q2 q3 q4 q5 q6 =>
      obtain ⟨m1, m2⟩ := hgo.unborn d.b q4 q3
      exact .made q1 q2 m1 (Nat.lt_of_lt_of_le q4 hgo.next) q5 (by rw [m2]; exact q6)

theorem hards_step {p : Plan} {ps : List Plan} {j : Nat} (h : HardsFrom (some j) (p :: ps)) : ∃ j2, HardsFrom (some j2) ps ∧ (j2 = j ∨ j2 = p.i) := by
  have h2 := h.2
  cases hc : p.cls <;> rw [hc] at h2 <;> first
    | exact ⟨p.i, h2, .inr rfl⟩
    | exact ⟨j, h2, .inl rfl⟩
/-- Behind a hard one nothing is ready but what is behind it. -/
theorem hards_chain {ps : List Plan} : ∀ {j : Nat}, HardsFrom (some j) ps → ∀ q ∈ ps, ∃ j', q.bef.testBit j' = true ∧ (j' = j ∨ ∃ h ∈ ps, h.i = j') := by
  induction ps with
  | nil => intro j hh q hq; cases hq
  | cons p ps ih =>
    intro j hh q hq
    rcases List.mem_cons.1 hq with e | hq
    · subst e; exact ⟨j, hh.1 j rfl, .inl rfl⟩
    · obtain ⟨j2, h2, h3⟩ := hards_step hh
      obtain ⟨j', q1, q2⟩ := ih h2 q hq
      refine ⟨j', q1, ?_⟩
      rcases q2 with q2 | ⟨x, m1, m2⟩
      · rcases h3 with h3 | h3
        · exact .inl (q2.trans h3)
        · exact .inr ⟨p, List.mem_cons_self, (q2.trans h3).symm⟩
      · exact .inr ⟨x, List.mem_cons_of_mem _ m1, m2⟩

theorem exists_ready (hF : PlanFacts P ops l) {D rest pend env s L ρ a w done last} (h : Inv P γ n ops l s₀ ρ₀ w₀ D rest pend env s L ρ a w done last) (hne : 0 < D.length + rest.length) : Region.ready .any ops L ≠ [] := by
  intro hnil
  have key : ∀ m, ∀ p ∈ l, p.i = m → L.getD p.i false = true := by
    intro m
    induction m using Nat.strongRecOn with
    | _ m ih =>
      intro p hp hm
      cases hL : L.getD p.i false with
      | true => rfl
      | false =>
        exfalso
        have hop := (hF.op p hp).1
        have hlt : p.i < L.size := by rw [h.Lsize]; exact (Array.getElem?_eq_some_iff.1 hop).1
        have : p.i ∈ Region.ready .any ops L := by
          refine mem_ready.2 ⟨?_, p.o, hop, fun e he hb => ?_⟩
          · rw [Array.getD_eq_getD_getElem?] at hL ⊢
            rw [Array.getElem?_eq_getElem hlt] at hL ⊢
            exact hL
          · have hlt2 := hF.edge p hp e (Array.mem_toList_iff.2 he) hb
            obtain ⟨q, q1, q2⟩ := hF.idx e.on (by rw [← h.Lsize]; omega)
            rw [← q2]
            exact ih e.on (by omega) q q1 q2
        rw [hnil] at this
        cases this
  cases D with
  | cons d D =>
    have := (h.Lspec d.p (h.subD d List.mem_cons_self)).1 (key _ d.p (h.subD d List.mem_cons_self) rfl)
    exact this.1 (by simp)
  | nil =>
    cases rest with
    | nil => simp at hne
    | cons p rest =>
      have := (h.Lspec p (h.subR p List.mem_cons_self)).1 (key _ p (h.subR p List.mem_cons_self) rfl)
      exact this.2 List.mem_cons_self

theorem no_ready (hF : PlanFacts P ops l) {pend env s L ρ a w done last} (h : Inv P γ n ops l s₀ ρ₀ w₀ [] [] pend env s L ρ a w done last) : Region.ready .any ops L = [] := by
  cases hr : Region.ready .any ops L with
  | nil => rfl
  | cons i r =>
    exfalso
    have hi : i ∈ Region.ready .any ops L := by rw [hr]; exact List.mem_cons_self
    obtain ⟨h1, o, h2, h3⟩ := mem_ready.1 hi
    have hlt : i < ops.size := (Array.getElem?_eq_some_iff.1 h2).1
    obtain ⟨p, q1, q2⟩ := hF.idx i hlt
    have := (h.Lspec p q1).2 ⟨by simp, by simp⟩
    rw [q2, Array.getD_eq_getD_getElem?] at this
    rw [Array.getD_eq_getD_getElem?] at h1
    rw [Array.getElem?_eq_getElem (by rw [h.Lsize]; exact hlt)] at h1 this
    simp at h1 this
    rw [h1] at this; cases this

/-- Every order does it. -/
theorem any_ok (hF : PlanFacts P ops l) (Q : Exit → Go.Act → World → Prop) {env' : Env} {s' : St}
    (hQ : ∀ ρ' w' a', Goes ρ₀ s₀ w₀ ρ' s' w' → Rel P γ ρ' s' w' → ER γ n ρ' env' a' → Q .normal a' w') : ∀ (fuel : Nat) (rest : List Plan) (pend : List Pend) (env : Env) (s : St), Trace P γ n ops rest pend env s env' s' →
    ∀ (D : List Late) (L : Array Bool) (ρ : Rho) (a : Go.Act) (w : World) (done : Nat) (last : Option Nat), Inv P γ n ops l s₀ ρ₀ w₀ D rest pend env s L ρ a w done last → D.length + rest.length = fuel → wpAny P .any ops Q fuel L a w := by
  intro fuel
  induction fuel with
  | zero =>
    intro rest pend env s ht D L ρ a w done last h hlen
    have hD : D = [] := List.length_eq_zero_iff.1 (by omega)
    have hR : rest = [] := List.length_eq_zero_iff.1 (by omega)
    subst hD hR
    cases ht
    refine ⟨no_ready hF h, hQ ρ w a h.goes h.rel ⟨h.size, h.defers, fun t f g hs => ?_⟩⟩
    rcases h.slots t f g hs with ⟨d, h1, _⟩ | h1
    · cases h1
    · exact h1
  | succ fuel ih =>
    -- a late one, or a hard one
    have lateStep : ∀ {rest pend env s}, Trace P γ n ops rest pend env s env' s' → ∀ {D L ρ a w done last}, Inv P γ n ops l s₀ ρ₀ w₀ D rest pend env s L ρ a w done last → D.length + rest.length = fuel + 1 →
        ∀ d ∈ D, d.p.i ∈ Region.ready .any ops L → wpOp P ops Q d.p.i (wpAny P .any ops Q fuel (L.setIfInBounds d.p.i true)) a w := by
      intro rest pend env s ht D L ρ a w done last h hlen d hd hr
      obtain ⟨D₁, D₂, rfl⟩ := List.append_of_mem hd
      refine h.doLate hF hr _ Q fun ρ' a' w' h' => ?_
      refine ih rest pend env s ht _ _ _ _ _ _ _ h' ?_
      simp at hlen ⊢; omega
    intro rest
    induction rest with
    | nil =>
      intro pend env s ht D L ρ a w done last h hlen
      refine ⟨fun hnil => absurd hnil (exists_ready hF h (by omega)), fun i hi => ?_⟩
      obtain ⟨_, o, h2, _⟩ := mem_ready.1 hi
      obtain ⟨p, q1, rfl⟩ := hF.idx i (Array.getElem?_eq_some_iff.1 h2).1
      obtain ⟨hL0, _⟩ := ready_bef hF h q1 hi
      have hin : p ∈ D.map (·.p) := by
        apply Classical.byContradiction
        intro hn
        have := (h.Lspec p q1).2 ⟨hn, by simp⟩
        rw [hL0] at this; cases this
      obtain ⟨d, hd, rfl⟩ := List.mem_map.1 hin
      exact lateStep ht h hlen d hd hi
    | cons p ps ihr =>
      intro pend env s ht D L ρ a w done last h hlen
      have hlen' : ∀ d : Late, (d :: D).length + ps.length = fuel + 1 := fun d => by simp at hlen ⊢; omega
      have hfresh : s.get s.next = .dead := h.rel.fresh _ (Nat.le_refl _)
      cases ht with
      | skip _ _ _ _ _ g _ _ hw hg ht =>
        exact ihr _ _ _ ht _ _ _ _ _ _ _ (h.absorb hF hg ⟨p, undefI, env, false, 0⟩ rfl rfl h.rel h.goes h.late (.skip rfl rfl) hw (fun _ hr => by cases hr)) (hlen' _)
      | pure _ _ _ _ _ g _ _ fa v hc hw hg hx hf hv ht =>
        exact ihr _ _ _ ht _ _ _ _ _ _ _ (h.absorb hF hg ⟨p, v, env, true, 0⟩ rfl rfl h.rel h.goes h.late (.pure rfl hc fa hx hf hv) hw (fun hm => by rw [hc] at hm; cases hm)) (hlen' _)
      | read _ _ _ _ _ g _ _ fa v hc hw hg hx hf hv ht =>
        refine ihr _ _ _ ht _ _ _ _ _ _ _ (h.absorb hF hg ⟨p, v, env, true, 0⟩ rfl rfl h.rel h.goes ?_ (.read rfl hc fa hx hf List.mem_cons_self hv) hw (fun hm => by rw [hc] at hm; cases hm)) (hlen' _)
        intro d hd
        cases h.late d hd with
        | skip q1 q2 => exact .skip q1 q2
        | pure q1 q2 fa q3 q4 q5 => exact .pure q1 q2 fa q3 q4 q5
        | read q1 q2 fa q3 q4 q5 q6 => exact .read q1 q2 fa q3 q4 (List.mem_cons_of_mem _ q5) q6
        | made q1 q2 q3 q4 q5 q6 => exact .made q1 q2 q3 q4 q5 q6
      | made _ _ _ _ _ g _ _ v x hc hw hg hx hv ht =>
        obtain ⟨hrel', hnone⟩ := h.rel.ahead x
        have hgo : Goes ρ₀ s₀ w₀ ρ (s.new x) w := h.goes.trans ⟨Le.refl ρ, fun b hb hn => ⟨hn, by rw [get_new, if_neg (by omega)]⟩, by rw [next_new]; omega, fun _ _ _ => rfl, fun b q hb hd _ => ⟨b, q, hb, by rw [get_new, if_neg (fun e => by subst e; rw [hnone] at hb; cases hb)] at hd; exact hd, rfl⟩, Nat.le_refl _, rfl, rfl, rfl⟩
        refine ihr _ _ _ ht _ _ _ _ _ _ _ (h.absorb hF hg ⟨p, v, env, true, s.next⟩ rfl rfl hrel' hgo ?_ (.made rfl hc hnone (by rw [next_new]; exact Nat.lt_succ_self _) h.goes.next ?_) hw ?_) (hlen' _)
        · intro d hd
          cases h.late d hd with
          | skip q1 q2 => exact .skip q1 q2
          | pure q1 q2 fa q3 q4 q5 => exact .pure q1 q2 fa q3 q4 (q4.2 _ _ _ q5 _)
          | read q1 q2 fa q3 q4 q5 q6 => exact .read q1 q2 fa q3 q4 q5 (q4.2.1 _ _ _ x hfresh q6)
          | made q1 q2 q3 q4 q5 q6 =>
            refine .made q1 q2 q3 (by rw [next_new]; omega) q5 ?_
            rw [get_new, if_neg (by omega)]
            exact q6
        · rw [get_new, if_pos rfl]
          exact hv
        · intro _ _ d2 h2 c2 r2 e
          cases h.late d2 h2 with
          | skip q1 q2 => rw [q1] at r2; cases r2
          | pure q1 q2 => rw [q2] at c2; cases c2
          | read q1 q2 => rw [q2] at c2; cases c2
          | made q1 q2 q3 q4 q5 q6 =>
            have : s.next = d2.b := e
            omega
      | hard _ _ _ _ _ g _ _ v s1 hc hw hg hv hs ht' =>
        refine ⟨fun hnil => absurd hnil (exists_ready hF h (by omega)), fun i hi => ?_⟩
        obtain ⟨_, o, h2, _⟩ := mem_ready.1 hi
        obtain ⟨q, q1, rfl⟩ := hF.idx i (Array.getElem?_eq_some_iff.1 h2).1
        obtain ⟨hL0, hbef⟩ := ready_bef hF h q1 hi
        have hin : q ∈ D.map (·.p) ∨ q = p ∨ q ∈ ps := by
          apply Classical.byContradiction
          intro hn
          simp only [not_or] at hn
          have := (h.Lspec q q1).2 ⟨hn.1, fun hm => by rcases List.mem_cons.1 hm with e | hm; exact hn.2.1 e; exact hn.2.2 hm⟩
          rw [hL0] at this; cases this
        rcases hin with hin | rfl | hin
        · obtain ⟨d, hd, rfl⟩ := List.mem_map.1 hin
          exact lateStep (.hard p ps pend env s g _ _ v s1 hc hw hg hv hs ht') h hlen d hd hi
        · refine h.doHard hF hi hc hg hw hv hs _ Q fun ρ' a' w' h' => ?_
          exact ih ps _ _ _ ht' _ _ _ _ _ _ _ h' (by simp at hlen ⊢; omega)
        · exfalso
          have hh := h.hards.2
          rw [hc] at hh
          obtain ⟨j', m1, m2⟩ := hards_chain hh q hin
          have hrest : ∀ x ∈ p :: ps, L.getD x.i false = true → False := fun x hx hLx => ((h.Lspec x (h.subR x hx)).1 hLx).2 hx
          rcases m2 with rfl | ⟨x, m2, rfl⟩
          · exact hrest p List.mem_cons_self (hbef p (h.subR p List.mem_cons_self) m1)
          · exact hrest x (List.mem_cons_of_mem _ m2) (hbef x (h.subR x (List.mem_cons_of_mem _ m2)) m1)

theorem drawn_ok (hm : P.follows .mixedOrders = true) : DrawnOk P γ := by
  intro n ops f hf X rec hX hrec env s k v1 s1 h
  unfold drawnT at hf
  cases hl : planOf P ops.toList with
  | none => rw [hl] at hf; cases hf; cases h
  | some l =>
    rw [hl] at hf
    simp only at hf
    have hF := plan_facts (ops := ops) hl
    cases hp : plansT P n ops.toList l with
    | mk F =>
      rw [hp] at hf; cases hf
      obtain ⟨pend', env', s', q1, q2⟩ := trace_of (γ := γ) hX hrec l (fun p hp => (hF.op p hp).2) hp h
      refine ⟨env', s', q1, fun ρ w a hr hg hE Q hQ id => wp_region_any hm ?_⟩
      have hlen := hF.len
      refine any_ok (l := l) (s₀ := s) (ρ₀ := ρ) (w₀ := w) hF Q hQ ops.size l [] env s q2 [] (Array.replicate ops.size false) ρ a (drawn w) 0 none ?_ (by simp [hlen])
      have hrep : ∀ i, (Array.replicate ops.size false).getD i false = false := by
        intro i
        rw [Array.getD_eq_getD_getElem?, Array.getElem?_replicate]
        split <;> rfl
      refine ⟨hr.drawn, hg, Goes.drawn ρ s w, hE.size, hE.defers, by simp, ?_, ?_, fun d hd => (by cases hd), fun q hq => hq, by simpa using hF.nodup, hF.lin, fun q _ => (by simp), fun d hd => (by cases hd), hF.hards, fun j hj => (by cases hj),
        fun t f g hs => .inr (hE.slots t f g hs), fun d hd => (by cases hd), fun d hd => (by cases hd), fun d hd => (by cases hd), fun d hd => (by cases hd), fun d hd => (by cases hd), fun d hd => (by cases hd), fun d hd => (by cases hd)⟩
      · intro q hq
        rw [hrep]
        simp [hq]
      · intro q hq hL
        rw [hrep] at hL; cases hL
end Go.Eng
end
section
set_option linter.constructorNameAsVariable false
set_option linter.unusedVariables false
namespace Go.Eng
open Go.RowKit
variable {P : Program} {γ : Gam}

/-- Nothing is there. -/
def s₀ : St := { heap := .e, next := 0 }
theorem rel₀ (w : World) : Rel P γ (fun _ => none) s₀ w := ⟨fun b p h => (by cases h), fun b p h => (by cases h), fun b _ => rfl, fun b b' p p' h => (by cases h)⟩

theorem noExt_ok : ExtOk P γ noExt := fun _ _ _ _ _ h => (by cases h)

/-- What the interpreter computes, the program computes. -/
theorem calls_of_run (hm : P.follows .mixedOrders = true) {X : Ext} (hX : ExtOk P γ X) {m f : Nat} {args : List IV} {v : IV} {s1 : St} (h : (run P X m).f f args s₀ .ok = .ok v s1) {args' : List Value} (hv : VRs (fun _ => none) γ args args') (w : World) :
    Calls P f args'.toArray w fun e w' => ∃ v' ρ', e = .returned v' ∧ Below w.heap.size w w' ∧ VR ρ' γ v v' := by
  obtain ⟨v2, s2, h1, h2⟩ := (run_ok (drawn_ok hm) hX m).f f args s₀ .ok v s1 h
  cases h1
  refine (h2 _ w args' (rel₀ w) trivial hv).mono ?_
  rintro e w' ⟨v', ρ', rfl, g1, g2, g3⟩
  exact ⟨v', ρ', rfl, ⟨g1.os, g1.tape, g1.output, g1.size, fun k hk => g1.others k hk fun b p hb => (by cases hb)⟩, g3⟩

def isTrue : R → Bool
  | .ok (.bool true) _ => true
  | _ => false
/-- A law. -/
theorem law_of_run (hm : P.follows .mixedOrders = true) {X : Ext} (hX : ExtOk P γ X) {m f : Nat} {args : List IV} (h : isTrue ((run P X m).f f args s₀ .ok) = true) {args' : List Value} (hv : VRs (fun _ => none) γ args args') (w : World) :
    Calls P f args'.toArray w fun e w' => e = .returned (.bool true) ∧ Below w.heap.size w w' := by
  unfold isTrue at h
  split at h <;> (try (cases h; done))
  rename_i s1 hr
  refine (calls_of_run hm hX hr hv w).mono ?_
  rintro e w' ⟨v', ρ', rfl, g1, g2⟩
  cases g2
  exact ⟨rfl, g1⟩
end Go.Eng
end
section
set_option linter.constructorNameAsVariable false
set_option linter.unusedVariables false
namespace Go.Eng
open Go.RowKit
variable {P : Program} {γ : Gam}

theorem Rel.below {ρ : Rho} {s : St} {w w' : World} (h : Rel P γ ρ s w) (hb : Below w.heap.size w w') : Rel P γ ρ s w' :=
  ⟨fun b p h1 h2 => by rw [hb.block p.blk (h.bound b p h1).2]; exact h.live b p h1 h2, fun b p h1 => ⟨(h.bound b p h1).1, Nat.lt_of_lt_of_le (h.bound b p h1).2 hb.size⟩, h.fresh, h.apart⟩
theorem Goes.below {ρ : Rho} {s : St} {w w' : World} (hb : Below w.heap.size w w') : Goes ρ s w ρ s w' :=
  ⟨Le.refl ρ, fun _ _ h => ⟨h, rfl⟩, Nat.le_refl _, fun x hx _ => hb.block x hx, fun b p h hd _ => ⟨b, p, h, hd, rfl⟩, hb.size, hb.os, hb.tape, hb.output⟩

/-- Calls that are known: by the function's number, what is known of its value at arguments. -/
def memo (rows : Nat → List IV → Option IV) : Ext := ⟨fun f args s => match rows f args with
  | some v => some (.ok v s)
  | none => none⟩
theorem memo_ok {rows : Nat → List IV → Option IV} (h : ∀ f args v, rows f args = some v → ∀ (ρ : Rho) args', VRs ρ γ args args' → ∀ w, Calls P f args'.toArray w fun e w' => ∃ v', e = .returned v' ∧ Below w.heap.size w w' ∧ VR ρ γ v v') :
    ExtOk P γ (memo rows) := by
  intro f args s v s' hg ρ w args' hr _ hv
  unfold memo at hg
  simp only at hg
  cases hrow : rows f args with
  | none => rw [hrow] at hg; cases hg
  | some v0 =>
    rw [hrow] at hg
    cases hg
    refine (h f args v hrow ρ args' hv w).mono ?_
    rintro e w' ⟨v', rfl, q1, q2⟩
    exact ⟨v', ρ, rfl, Goes.below q1, hr.below q1, q2⟩
end Go.Eng
end
