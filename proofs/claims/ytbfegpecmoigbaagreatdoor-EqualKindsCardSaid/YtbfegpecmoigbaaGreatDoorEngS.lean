/- A part of the proof: an interpreter of the program, shown right once, and the laws that it computes. -/
import Derived.Test.YtbfegpecmoigbaaGreatDoorEngR
set_option linter.constructorNameAsVariable false
set_option linter.unusedVariables false
noncomputable section
namespace Go.Eng
open Go.RowKit
variable {P : Program} {γ : Gam}

theorem byteI_inv {v : IV} {c : Nat} (h : byteI v = some c) : v = .int .u8 (Int.ofNat c) := by
  unfold byteI at h
  split at h <;> (try (cases h; done))
  split at h <;> (try (cases h; done))
  cases h
  rfl
theorem bytesOfI_inv : ∀ {l : List IV} {r : List Nat}, bytesOfI l = some r → l = bytesI r
  | [], r, h => by simp [bytesOfI] at h; subst h; rfl
  | v :: l, r, h => by
    unfold bytesOfI at h
    split at h <;> (try (cases h; done))
    rename_i c hc
    split at h <;> (try (cases h; done))
    rename_i q hq
    cases h
    rw [byteI_inv hc, bytesOfI_inv hq]
    rfl
theorem bytesI_get : ∀ {l : List Nat} {j : Nat}, j < l.length → ∃ n, (bytesI l)[j]? = some (.int .u8 n)
  | [], j, h => absurd h (Nat.not_lt_zero j)
  | c :: l, 0, _ => ⟨Int.ofNat c, rfl⟩
  | c :: l, j + 1, h => by
    have ⟨n, hn⟩ := bytesI_get (l := l) (j := j) (by simpa using h)
    exact ⟨n, by simpa [bytesI] using hn⟩
theorem wrC_get (vs : List IV) {j : Nat} (h : j < vs.length) : some (PT.get undefI (wrC vs .e 0) j) = vs[j]? := by
  rw [get_wrC, dif_pos (by omega)]
  simp [h]

/-- What one hands back at rows of bytes is known: moved to where it is wanted. -/
def packAt (p : Pack) (b : Nat) (s : St) : R := .ok (ren (sig b s.next) p.v) (addRows (sig b s.next) p.rows s)
def memoR (E : Nat) (rows : Nat → List Nat → Option Pack) : Ext := ⟨fun f args s => match args with
  | [.sl b 0 n c false] => match s.get b with
    | .cells cs len e 0 1 => match Nat.beq e E && Nat.beq n len && Nat.beq c len with
      | true => match bytesOfI (rdC cs len 0) with
        | some l => match rows f l with
          | some p => some (packAt p b s)
          | none => none
        | none => none
      | false => none
    | _ => none
  | _ => none⟩

theorem pack_ret {E : Nat} {l : List Nat} {p : Pack} {v1 : IV} {s1 : St} {ρ ρ1 : Rho} {s : St} {w w' : World} {b : Nat} {cs : PT IV} {p0 : Pl} {v' : Value}
    (hp : packOk E l p (.ok v1 s1) = true) (hs : s.get b = .cells cs l.length E 0 1) (hcs : rdC cs l.length 0 = bytesI l) (hb : ρ b = some p0) (hrel : Rel P γ ρ s w)
    (g : Goes (fun k => match k with | 0 => ρ b | _ + 1 => none) (s₀.new (rowOf (bytesI l) E 1)) w ρ1 s1 w') (h1 : Rel P γ ρ1 s1 w') (hv : VR ρ1 γ v1 v') :
    ∃ ρ', Goes ρ s w ρ' (addRows (sig b s.next) p.rows s) w' ∧ Rel P γ ρ' (addRows (sig b s.next) p.rows s) w' ∧ VR ρ' γ (ren (sig b s.next) p.v) v' := by
  unfold packOk at hp
  simp only [Bool.and_eq_true] at hp
  obtain ⟨⟨⟨k1, k2⟩, k3⟩, k4⟩ := hp
  have k1 := ieq_eq k1
  obtain ⟨c0, k2, k2'⟩ := checkRow_inv k2
  obtain ⟨k3, k5⟩ := rowsOk_inv k3
  obtain ⟨k6, k7⟩ := asc_get k4
  have hbn := (hrel.bound b p0 hb).1
  have h10 : ρ1 0 = some p0 := g.le 0 p0 hb
  have hld : (s.get b) = .cells cs l.length E 0 1 := hs
  have live0 : ¬ Dead (s1.get 0) := by rw [k2]; exact id
  have liveb : ¬ Dead (s.get b) := by rw [hs]; exact id
  have lives : ¬ Dead ((s₀.new (rowOf (bytesI l) E 1)).get 0) := by rw [get_new]; exact id
  have h1n : ∀ b, s1.next ≤ b → ρ1 b = none := fun b hb => by
    cases h : ρ1 b with
    | none => rfl
    | some q => exact absurd (h1.bound b q h).1 (by omega)
  -- the new places
  let ρ' : Rho := fun x => if x < s.next then ρ x else ρ1 (tau p.at_ s1.next (x - s.next + 1))
  have old : ∀ x, x < s.next → ρ' x = ρ x := fun x hx => if_pos hx
  have new : ∀ x, ¬ x < s.next → ρ' x = ρ1 (tau p.at_ s1.next (x - s.next + 1)) := fun x hx => if_neg hx
  have inK : ∀ x q, ¬ x < s.next → ρ' x = some q → ∃ j r, x = s.next + j ∧ p.rows[j]? = some r ∧ j < p.at_.length ∧ ρ1 (p.at_.getD j 0) = some q := fun x q hx hq => by
    rw [new x hx] at hq
    by_cases hj : x - s.next < p.at_.length
    · refine ⟨x - s.next, p.rows[x - s.next]'(by omega), by omega, List.getElem?_eq_getElem _, hj, ?_⟩
      rw [← getD_of_lt s1.next 0 hj]; exact hq
    · have : tau p.at_ s1.next (x - s.next + 1) = s1.next := getD_of_ge _ (by omega)
      rw [this, h1n _ (Nat.le_refl _)] at hq
      cases hq
  have names : ∀ k q, ρ1 (tau p.at_ s1.next k) = some q → ρ' (sig b s.next k) = some q := fun k q hq => by
    cases k with
    | zero =>
      have hq : ρ1 0 = some q := hq
      rw [h10] at hq
      show ρ' b = _
      rw [old b hbn, hb, hq]
    | succ j =>
      show ρ' (s.next + j) = _
      rw [new _ (by omega), show s.next + j - s.next + 1 = j + 1 from by omega]
      exact hq
  have rowNew : ∀ (j : Nat) (r : RowP), p.rows[j]? = some r → (addRows (sig b s.next) p.rows s).get (s.next + j) = rowAs (sig b s.next) r := addRows_new _ _ s
  have rowOld : ∀ x, x < s.next → (addRows (sig b s.next) p.rows s).get x = s.get x := addRows_old _ _ s
  have nx : (addRows (sig b s.next) p.rows s).next = s.next + p.rows.length := addRows_next _ _ s
  have liveNew : ∀ (j : Nat) (r : RowP), p.rows[j]? = some r → ¬ Dead (s1.get (p.at_.getD j 0)) := fun j r hr => by
    obtain ⟨c, q, _⟩ := checkRow_inv (k5 j r hr)
    rw [q]; exact id
  -- a new row lies neither where an old one lies
  have apartON : ∀ x y q q' j r, x < s.next → ρ x = some q → ¬ Dead (s.get x) → p.rows[j]? = some r → j < p.at_.length → ρ1 (p.at_.getD j 0) = some q' → y = s.next + j → q.blk ≠ q'.blk := fun x y q q' j r hx hq hd hr hj hq' _ he => by
    have hlt := (hrel.bound x q hq).2
    obtain ⟨b0, p0', e1, e2, e3⟩ := g.born _ q' hq' (liveNew j r hr) (he ▸ hlt)
    cases b0 with
    | succ _ => cases e1
    | zero =>
      have e1 : ρ b = some p0' := e1
      rw [hb] at e1
      cases e1
      by_cases hxb : x = b
      · subst hxb
        rw [hb] at hq; cases hq
        exact h1.apart 0 _ p0 q' h10 hq' live0 (liveNew j r hr) (by have := k6 j hj; omega) he
      · exact hrel.apart x b q p0 hq hb hd liveb hxb (by rw [he, e3])
  refine ⟨ρ', ⟨?_, ?_, ?_, ?_, ?_, g.size, g.os, g.tape, g.output⟩, ⟨?_, ?_, ?_, ?_⟩, ?_⟩
  · intro x q hq
    rw [old x (hrel.bound x q hq).1]; exact hq
  · intro x hx hn
    exact ⟨by rw [old x hx]; exact hn, rowOld x hx⟩
  · rw [nx]; omega
  · intro x hx hn
    refine g.others x hx fun k q hk hd => ?_
    cases k with
    | zero => exact hn b q hk liveb
    | succ _ => cases hk
  · intro x q hq hd hlt
    by_cases hx : x < s.next
    · rw [old x hx] at hq
      rw [rowOld x hx] at hd
      exact ⟨x, q, hq, hd, rfl⟩
    · obtain ⟨j, r, rfl, hr, hj, hq'⟩ := inK x q hx hq
      obtain ⟨b0, p0', e1, e2, e3⟩ := g.born _ q hq' (liveNew j r hr) hlt
      cases b0 with
      | succ _ => cases e1
      | zero => exact ⟨b, p0', e1, liveb, e3⟩
  · intro x q hq hd
    by_cases hx : x < s.next
    · rw [old x hx] at hq
      rw [rowOld x hx] at hd ⊢
      by_cases hxb : x = b
      · subst hxb
        rw [hb] at hq; cases hq
        obtain ⟨o, q1, q2⟩ := h1.live 0 p0 h10 live0
        refine ⟨o, q1, ?_⟩
        rw [k2] at q2
        rw [hs]
        have hlen : (inRow E l).cs.length = l.length := length_bytesI l
        rw [hlen] at q2 k2'
        refine OR.turn q2 fun j hj v' hv' => ?_
        have e1 : some (PT.get undefI c0 j) = (rens (fun b => b) (inRow E l).cs)[j]? := by rw [k2', get_rdC _ _ _ _ hj]; simp
        have e2 : some (PT.get undefI cs j) = (bytesI l)[j]? := by rw [← hcs, get_rdC _ _ _ _ hj]; simp
        obtain ⟨n, hn⟩ := bytesI_get hj
        have e3 : (rens (fun b => b) (inRow E l).cs)[j]? = some (.int .u8 n) := by
          have : ∀ (l : List IV) (j : Nat), l[j]? = some (.int .u8 n) → (rens (fun b => b) l)[j]? = some (.int .u8 n) := by
            intro l
            induction l with
            | nil => intro j h; simp at h
            | cons a l ih =>
              intro j h
              cases j with
              | zero => simp at h; subst h; rfl
              | succ j => simp only [rens, List.getElem?_cons_succ] at h ⊢; exact ih j h
          exact this _ _ hn
        rw [e3] at e1; rw [hn] at e2
        rw [Option.some.inj e1] at hv'
        rw [Option.some.inj e2]
        cases hv'
        exact .int _ _
      · obtain ⟨o, q1, q2⟩ := hrel.live x q hq hd
        refine ⟨o, ?_, q2.mono fun y z hy => by rw [old y (hrel.bound y z hy).1]; exact hy⟩
        rw [g.others q.blk (hrel.bound x q hq).2 fun k q' hk hd' => ?_]
        · exact q1
        · cases k with
          | zero => exact hrel.apart b x q' q hk hq liveb hd fun h => hxb h.symm
          | succ _ => cases hk
    · obtain ⟨j, r, rfl, hr, hj, hq'⟩ := inK x q hx hq
      obtain ⟨c, e1, e2⟩ := checkRow_inv (k5 j r hr)
      obtain ⟨o, q1, q2⟩ := h1.live _ q hq' (liveNew j r hr)
      refine ⟨o, q1, ?_⟩
      rw [rowNew j r hr]
      rw [e1] at q2
      refine OR.turn q2 fun i hi v' hv' => ?_
      have f1 : some (PT.get undefI c i) = (rens (tau p.at_ s1.next) r.cs)[i]? := by rw [e2, get_rdC _ _ _ _ hi]; simp
      have f2 : some (PT.get undefI (wrC (rens (sig b s.next) r.cs) .e 0) i) = (rens (sig b s.next) r.cs)[i]? := wrC_get _ (by rw [length_rens]; exact hi)
      have rget : ∀ (f : Nat → Nat) (l : List IV) (i : Nat), (rens f l)[i]? = (l[i]?).map (ren f) := by
        intro f l
        induction l with
        | nil => intro i; simp [rens]
        | cons a l ih =>
          intro i
          cases i with
          | zero => rfl
          | succ i => simp only [rens, List.getElem?_cons_succ]; exact ih i
      rw [rget, List.getElem?_eq_getElem hi] at f1 f2
      rw [Option.some.inj f1] at hv'
      rw [Option.some.inj f2]
      exact ren_rel names _ hv'
  · intro x q hq
    by_cases hx : x < s.next
    · rw [old x hx] at hq
      exact ⟨by rw [nx]; omega, Nat.lt_of_lt_of_le (hrel.bound x q hq).2 g.size⟩
    · obtain ⟨j, r, rfl, hr, hj, hq'⟩ := inK x q hx hq
      exact ⟨by rw [nx]; omega, (h1.bound _ q hq').2⟩
  · intro x hx
    exact addRows_far _ _ s x hrel.fresh (by rw [← nx]; exact hx)
  · intro x y q q' hq hq' hd hd' hne
    by_cases hx : x < s.next
    · rw [old x hx] at hq
      rw [rowOld x hx] at hd
      by_cases hy : y < s.next
      · rw [old y hy] at hq'
        rw [rowOld y hy] at hd'
        exact hrel.apart x y q q' hq hq' hd hd' hne
      · obtain ⟨j, r, rfl, hr, hj, hq''⟩ := inK y q' hy hq'
        exact apartON x _ q q' j r hx hq hd hr hj hq'' rfl
    · obtain ⟨i, r, rfl, hr, hi, hq1⟩ := inK x q hx hq
      by_cases hy : y < s.next
      · rw [old y hy] at hq'
        rw [rowOld y hy] at hd'
        exact fun h => apartON y _ q' q i r hy hq' hd' hr hi hq1 rfl h.symm
      · obtain ⟨j, r', rfl, hr', hj, hq2⟩ := inK y q' hy hq'
        refine h1.apart _ _ q q' hq1 hq2 (liveNew i r hr) (liveNew j r' hr') ?_
        rcases Nat.lt_trichotomy i j with h | h | h
        · have := k7 i j h hj; omega
        · subst h; exact absurd rfl hne
        · have := k7 j i h hi; omega
  · rw [← k1] at hv
    exact ren_rel names _ hv

theorem memoR_ok (hm : P.follows .mixedOrders = true) {X : Ext} (hX : ExtOk P γ X) {m E : Nat} {rows : Nat → List Nat → Option Pack}
    (h : ∀ f l p, rows f l = some p → packOk E l p ((run P X m).f f [.sl 0 0 l.length l.length false] (s₀.new (rowOf (bytesI l) E 1)) .ok) = true) : ExtOk P γ (memoR E rows) := by
  intro f args s v s' hg ρ w args' hr _ hv
  unfold memoR at hg
  simp only at hg
  split at hg <;> (try (cases hg; done))
  rename_i b n c
  split at hg <;> (try (cases hg; done))
  rename_i cs len e hs
  split at hg <;> (try (cases hg; done))
  rename_i hbeq
  simp only [Bool.and_eq_true] at hbeq
  obtain ⟨⟨b1, b2⟩, b3⟩ := hbeq
  obtain rfl := Nat.eq_of_beq_eq_true b1
  obtain rfl := Nat.eq_of_beq_eq_true b2
  obtain rfl := Nat.eq_of_beq_eq_true b3
  split at hg <;> (try (cases hg; done))
  rename_i l hl
  split at hg <;> (try (cases hg; done))
  rename_i p hp
  cases hg
  have hcs := bytesOfI_inv hl
  have hlen : c = l.length := by
    have := congrArg List.length hcs
    rwa [length_rdC, length_bytesI] at this
  subst hlen
  have hpk := h f l p hp
  cases hrun : (run P X m).f f [.sl 0 0 l.length l.length false] (s₀.new (rowOf (bytesI l) e 1)) .ok with
  | no => rw [hrun] at hpk; cases hpk
  | ok v1 s1 =>
    rw [hrun] at hpk
    obtain ⟨v2, s2, h1, h2⟩ := (run_ok (drawn_ok hm) hX m).f f _ _ .ok v1 s1 hrun
    cases h1
    cases hv with
    | cons _ x _ xs hx hxs =>
      cases hxs
      cases hx with
      | sli _ _ _ _ c' off p0 hb hn hc ho hlim =>
        have hlb : ¬ Dead (s.get b) := by rw [hs]; exact id
        have hget : (s₀.new (rowOf (bytesI l) e 1)).get 0 = .cells (wrC (bytesI l) .e 0) (bytesI l).length e 0 1 := by rw [get_new]; rfl
        have rel0 : Rel P γ (fun k => match k with | 0 => ρ b | _ + 1 => none) (s₀.new (rowOf (bytesI l) e 1)) w := by
          refine ⟨fun k q hk hd => ?_, fun k q hk => ?_, fun k hk => ?_, fun k k' q q' hk hk' _ _ hne => ?_⟩
          · cases k with
            | succ _ => cases hk
            | zero =>
              obtain ⟨o, q1, q2⟩ := hr.live b q hk hlb
              refine ⟨o, q1, ?_⟩
              rw [hs] at q2
              rw [hget, length_bytesI]
              refine OR.turn q2 fun j hj v' hv' => ?_
              have e1 : some (PT.get undefI (wrC (bytesI l) .e 0) j) = (bytesI l)[j]? := wrC_get _ (by rw [length_bytesI]; exact hj)
              have e2 : some (PT.get undefI cs j) = (bytesI l)[j]? := by rw [← hcs, get_rdC _ _ _ _ hj]; simp
              obtain ⟨n, hn⟩ := bytesI_get hj
              rw [hn] at e1 e2
              rw [Option.some.inj e2] at hv'
              rw [Option.some.inj e1]
              cases hv'
              exact .int _ _
          · cases k with
            | succ _ => cases hk
            | zero => exact ⟨by show 0 < 0 + 1; omega, (hr.bound b q hk).2⟩
          · have hk : 0 + 1 ≤ k := hk
            rw [get_new, if_neg (by show ¬ k = 0; omega)]
            rfl
          · cases k with
            | succ _ => cases hk
            | zero =>
              cases k' with
              | succ _ => cases hk'
              | zero => exact absurd rfl hne
        refine (h2 _ w _ rel0 trivial (.cons _ _ _ _ (.sli 0 0 _ _ c' off p0 hb hn hc ho hlim) .nil)).mono ?_
        rintro e' w' ⟨v', ρ1, rfl, g1, g2, g3⟩
        obtain ⟨ρ', q1, q2, q3⟩ := pack_ret hpk hs hcs hb hr g1 g2 g3
        exact ⟨v', ρ', rfl, q1, q2, q3⟩
end Go.Eng
