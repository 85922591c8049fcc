/- A part of the proof: an interpreter of the program, shown right once, and the laws that it computes. -/
import Derived.Test.YtphdmkiedglfmaaGreatEng31
set_option linter.constructorNameAsVariable false
set_option linter.unusedVariables false
noncomputable section
namespace Go.Eng
open Go.RowKit
variable {P : Program} {γ : Gam}

mutual
/-- An ideal value whose places have got other names. -/
def ren (f : Nat → Nat) : IV → IV
  | .bool b => .bool b
  | .int k n => .int k n
  | .str s => .str s
  | .nilptr => .nilptr
  | .ptr b o => .ptr (f b) o
  | .nilsl => .nilsl
  | .sl b o n c x => .sl (f b) o n c x
  | .nilmap => .nilmap
  | .map b => .map (f b)
  | .fn g a c => .fn g (rens f a) (rens f c)
  | .nilfn => .nilfn
  | .niliface => .niliface
  | .iface t v => .iface t (ren f v)
  | .agg l => .agg (rens f l)
  | .tup l => .tup (rens f l)
  | .sym k => .sym k
  | .sstr l => .sstr l
def rens (f : Nat → Nat) : List IV → List IV
  | [] => []
  | v :: l => ren f v :: rens f l
end
theorem length_rens (f : Nat → Nat) : ∀ l : List IV, (rens f l).length = l.length
  | [] => rfl
  | _ :: l => by simp [rens, length_rens f l]

mutual
theorem ren_rel {ρ ρ' : Rho} {f g : Nat → Nat} (h : ∀ b p, ρ (f b) = some p → ρ' (g b) = some p) : ∀ (v : IV) {x : Value}, VR ρ γ (ren f v) x → VR ρ' γ (ren g v) x
  | .bool b, _, hv => by simp only [ren] at hv ⊢; cases hv; exact .bool b
  | .int k n, _, hv => by simp only [ren] at hv ⊢; cases hv; exact .int k n
  | .str s, _, hv => by simp only [ren] at hv ⊢; cases hv; rename_i s h; exact .str s _ h
  | .nilptr, _, hv => by simp only [ren] at hv ⊢; cases hv; exact .nilptr
  | .ptr b o, _, hv => by simp only [ren] at hv ⊢; cases hv; rename_i p hb; exact .ptr _ _ p (h b p hb)
  | .nilsl, _, hv => by simp only [ren] at hv ⊢; cases hv; exact .nilsl
  | .sl b o n c x, _, hv => by
    simp only [ren] at hv ⊢
    cases hv with
    | slx _ _ _ _ p hb => exact .slx _ _ _ _ p (h b p hb)
    | sli _ _ _ _ c' off p hb hn hc ho hl => exact .sli _ _ _ _ c' off p (h b p hb) hn hc ho hl
  | .nilmap, _, hv => by simp only [ren] at hv ⊢; cases hv; exact .nilmap
  | .map b, _, hv => by simp only [ren] at hv ⊢; cases hv; rename_i p hb; exact .map _ p (h b p hb)
  | .fn k a c, _, hv => by
    simp only [ren] at hv ⊢
    cases hv with
    | fn _ _ _ a' c' hy ha hc => exact .fn _ _ _ a' c' hy (rens_rel h a ha) (rens_rel h c hc)
  | .nilfn, _, hv => by simp only [ren] at hv ⊢; cases hv; exact .nilfn
  | .niliface, _, hv => by simp only [ren] at hv ⊢; cases hv; exact .niliface
  | .iface t v, _, hv => by simp only [ren] at hv ⊢; cases hv; rename_i v' hv; exact .iface t _ v' (ren_rel h v hv)
  | .agg l, _, hv => by simp only [ren] at hv ⊢; cases hv; rename_i a ha; exact .agg _ a (rens_rel h l ha)
  | .tup l, _, hv => by simp only [ren] at hv ⊢; cases hv; rename_i a ha; exact .tup _ a (rens_rel h l ha)
  | .sym k, _, hv => by
    simp only [ren] at hv ⊢
    generalize hq : IV.sym k = q at hv
    cases hv <;> cases hq
    exact .sym (γ := γ) k ‹_› ‹_› ‹_› ‹_› ‹_›
  | .sstr l, _, hv => by simp only [ren] at hv ⊢; cases hv; rename_i s h hc; exact .sstr s l h hc
theorem rens_rel {ρ ρ' : Rho} {f g : Nat → Nat} (h : ∀ b p, ρ (f b) = some p → ρ' (g b) = some p) : ∀ (l : List IV) {xs : List Value}, VRs ρ γ (rens f l) xs → VRs ρ' γ (rens g l) xs
  | [], _, hv => by simp only [rens] at hv ⊢; cases hv; exact .nil
  | v :: l, _, hv => by
    simp only [rens] at hv ⊢
    cases hv with
    | cons _ v' _ l' h1 h2 => exact .cons _ v' _ l' (ren_rel h v h1) (rens_rel h l h2)
end

/-- A row by itself. -/
structure RowP where
  cs : List IV
  elem : Nat
  fz : Nat
  tag : Nat
/-- What a call hands back: a value, its rows (place 0 is the row that was handed in, place k + 1 is the row with the number k), where they lay. -/
structure Pack where
  v : IV
  rows : List RowP
  at_ : List Nat

def rowAs (f : Nat → Nat) (r : RowP) : IObj := .cells (wrC (rens f r.cs) .e 0) r.cs.length r.elem r.fz r.tag
def addRows (f : Nat → Nat) (rs : List RowP) : St → St :=
  List.rec (motive := fun _ => St → St) (fun s => s) (fun r _ ih s => ih (s.new (rowAs f r))) rs
def tau (l : List Nat) (d : Nat) : Nat → Nat
  | 0 => 0
  | j + 1 => l.getD j d
def sig (b nx : Nat) : Nat → Nat
  | 0 => b
  | j + 1 => Nat.add nx j

def checkRow (f : Nat → Nat) (r : RowP) : IObj → Bool
  | .cells c len e fz tag => Nat.beq len r.cs.length && Nat.beq e r.elem && Nat.beq fz r.fz && Nat.beq tag r.tag && ieqs (rens f r.cs) (rdC c len 0)
  | _ => false
def rowsOk (f : Nat → Nat) (s : St) : List RowP → List Nat → Bool
  | [], [] => true
  | r :: rs, b :: bs => checkRow f r (s.get b) && rowsOk f s rs bs
  | _, _ => false
def asc : Nat → List Nat → Bool
  | _, [] => true
  | m, b :: bs => Nat.blt m b && asc b bs
def inRow (E : Nat) (l : List Nat) : RowP := ⟨bytesI l, E, 0, 1⟩
def packOk (E : Nat) (l : List Nat) (p : Pack) : R → Bool
  | .ok v s => ieq (ren (tau p.at_ s.next) p.v) v && checkRow (fun b => b) (inRow E l) (s.get 0) && rowsOk (tau p.at_ s.next) s p.rows p.at_ && asc 0 p.at_
  | .no => false

theorem asc_get : ∀ {l : List Nat} {m : Nat}, asc m l = true → (∀ i, i < l.length → m < l.getD i 0) ∧ ∀ i j, i < j → j < l.length → l.getD i 0 < l.getD j 0
  | [], _, _ => ⟨fun i h => absurd h (Nat.not_lt_zero i), fun i j _ h => absurd h (Nat.not_lt_zero j)⟩
  | b :: bs, m, h => by
    simp only [asc, Bool.and_eq_true] at h
    obtain ⟨h1, h2⟩ := h
    have h1 : m < b := by simpa using h1
    obtain ⟨k1, k2⟩ := asc_get h2
    refine ⟨fun i hi => ?_, fun i j hij hj => ?_⟩
    · cases i with
      | zero => simpa using h1
      | succ i =>
        have := k1 i (by simpa using hi)
        simp only [List.getD_cons_succ]
        omega
    · cases j with
      | zero => omega
      | succ j =>
        cases i with
        | zero => simp only [List.getD_cons_zero, List.getD_cons_succ]; exact k1 j (by simpa using hj)
        | succ i => simp only [List.getD_cons_succ]; exact k2 i j (by omega) (by simpa using hj)

theorem getD_of_lt : ∀ {l : List Nat} {i : Nat} (d d' : Nat), i < l.length → l.getD i d = l.getD i d'
  | [], i, _, _, h => absurd h (Nat.not_lt_zero i)
  | _ :: l, 0, _, _, _ => rfl
  | _ :: l, i + 1, d, d', h => by simp only [List.getD_cons_succ]; exact getD_of_lt d d' (by simpa using h)
theorem getD_of_ge : ∀ {l : List Nat} {i : Nat} (d : Nat), l.length ≤ i → l.getD i d = d
  | [], _, _, _ => rfl
  | _ :: l, 0, _, h => absurd h (by simp)
  | _ :: l, i + 1, d, h => by simp only [List.getD_cons_succ]; exact getD_of_ge d (by simpa using h)

theorem OR.turn {ρ ρ' : Rho} {p : Pl} {c c2 : PT IV} {len e fz tag : Nat} {o : Obj} (h : OR P ρ γ p (.cells c len e fz tag) o)
    (hm : ∀ j, j < len → ∀ v', VR ρ γ (PT.get undefI c j) v' → VR ρ' γ (PT.get undefI c2 j) v') : OR P ρ' γ p (.cells c2 len e fz tag) o := by
  cases h with
  | cells _ _ _ _ _ arr fr h1 ha hc hf hs ht hz => exact .cells c2 len e fz tag arr fr h1 ha (fun j hj => let ⟨v', q1, q2⟩ := hc j hj; ⟨v', q1, hm j hj v' q2⟩) hf hs ht hz

theorem checkRow_inv {f : Nat → Nat} {r : RowP} {x : IObj} (h : checkRow f r x = true) : ∃ c, x = .cells c r.cs.length r.elem r.fz r.tag ∧ rens f r.cs = rdC c r.cs.length 0 := by
  unfold checkRow at h
  split at h <;> (try (cases h; done))
  rename_i c len e fz tag
  simp only [Bool.and_eq_true] at h
  obtain ⟨⟨⟨⟨h1, h2⟩, h3⟩, h4⟩, h5⟩ := h
  rw [Nat.eq_of_beq_eq_true h1, Nat.eq_of_beq_eq_true h2, Nat.eq_of_beq_eq_true h3, Nat.eq_of_beq_eq_true h4]
  rw [Nat.eq_of_beq_eq_true h1] at h5
  exact ⟨c, rfl, ieqs_eq h5⟩

theorem rowsOk_inv {f : Nat → Nat} {s : St} : ∀ {rs : List RowP} {bs : List Nat}, rowsOk f s rs bs = true → rs.length = bs.length ∧ ∀ (j : Nat) (r : RowP), rs[j]? = some r → checkRow f r (s.get (bs.getD j 0)) = true
  | [], [], _ => ⟨rfl, fun j r h => (by simp at h)⟩
  | [], _ :: _, h => by cases h
  | _ :: _, [], h => by cases h
  | r :: rs, b :: bs, h => by
    simp only [rowsOk, Bool.and_eq_true] at h
    obtain ⟨k1, k2⟩ := rowsOk_inv h.2
    refine ⟨by simp [k1], fun j q hq => ?_⟩
    cases j with
    | zero => simp at hq; subst hq; exact h.1
    | succ j => simp only [List.getElem?_cons_succ] at hq; simp only [List.getD_cons_succ]; exact k2 j q hq

theorem addRows_next (f : Nat → Nat) : ∀ (rs : List RowP) (s : St), (addRows f rs s).next = s.next + rs.length
  | [], s => rfl
  | r :: rs, s => by
    show (addRows f rs (s.new (rowAs f r))).next = _
    rw [addRows_next f rs]
    show s.next + 1 + rs.length = s.next + (rs.length + 1)
    omega
theorem addRows_old (f : Nat → Nat) : ∀ (rs : List RowP) (s : St) (b : Nat), b < s.next → (addRows f rs s).get b = s.get b
  | [], s, b, _ => rfl
  | r :: rs, s, b, h => by
    show (addRows f rs (s.new (rowAs f r))).get b = _
    rw [addRows_old f rs _ b (by show b < s.next + 1; omega), get_new, if_neg (by omega)]
theorem addRows_new (f : Nat → Nat) : ∀ (rs : List RowP) (s : St) (j : Nat) (r : RowP), rs[j]? = some r → (addRows f rs s).get (s.next + j) = rowAs f r
  | [], s, j, r, h => by simp at h
  | q :: rs, s, j, r, h => by
    show (addRows f rs (s.new (rowAs f q))).get (s.next + j) = _
    cases j with
    | zero =>
      simp at h; subst h
      rw [addRows_old f rs _ _ (by show s.next + 0 < s.next + 1; omega), get_new, if_pos (by omega)]
    | succ j =>
      simp only [List.getElem?_cons_succ] at h
      have := addRows_new f rs (s.new (rowAs f q)) j r h
      rw [show s.next + (j + 1) = (s.new (rowAs f q)).next + j from (by show s.next + (j + 1) = s.next + 1 + j; omega)]
      exact this
theorem addRows_far (f : Nat → Nat) : ∀ (rs : List RowP) (s : St) (b : Nat), (∀ b, s.next ≤ b → s.get b = .dead) → s.next + rs.length ≤ b → (addRows f rs s).get b = .dead
  | [], s, b, h, hb => h b (by simpa using hb)
  | r :: rs, s, b, h, hb => by
    show (addRows f rs (s.new (rowAs f r))).get b = _
    refine addRows_far f rs _ b (fun b' hb' => ?_) (by show s.next + 1 + rs.length ≤ b; simp at hb; omega)
    have hb' : s.next + 1 ≤ b' := hb'
    rw [get_new, if_neg (by omega)]
    exact h b' (by omega)
end Go.Eng
