/- A part of the proof: an interpreter of the program, shown right once, and the laws that it computes. -/
import Derived.Test.YtphdmkiedglfmaaGreatEngR
set_option linter.constructorNameAsVariable false
set_option linter.unusedVariables false
noncomputable section
namespace Go.Eng
open Go.RowKit
variable {P : Program} {γ : Gam}

mutual
theorem ren_id : ∀ v : IV, ren (fun b => b) v = v
  | .bool b => rfl
  | .int k n => rfl
  | .str s => rfl
  | .nilptr => rfl
  | .ptr b o => rfl
  | .nilsl => rfl
  | .sl b o n c x => rfl
  | .nilmap => rfl
  | .map b => rfl
  | .fn g a c => by rw [ren, rens_id a, rens_id c]
  | .nilfn => rfl
  | .niliface => rfl
  | .iface t v => by rw [ren, ren_id v]
  | .agg l => by rw [ren, rens_id l]
  | .tup l => by rw [ren, rens_id l]
  | .sym k => rfl
  | .sstr l => rfl
theorem rens_id : ∀ l : List IV, rens (fun b => b) l = l
  | [] => rfl
  | v :: l => by rw [rens, ren_id v, rens_id l]
end

theorem rens_get (f : Nat → Nat) : ∀ (l : List IV) (i : Nat), (rens f l)[i]? = (l[i]?).map (ren f)
  | [], i => by simp [rens]
  | a :: l, 0 => rfl
  | a :: l, i + 1 => by simp only [rens, List.getElem?_cons_succ]; exact rens_get f l i

/-- What a call leaves of a row that was there. -/
inductive OutP where
  | same
  | row (r : RowP)
  | dead
/-- A call that is known: of which function, at which arguments and rows (places 0, 1, ..), what is left of these, what it hands back, which rows are new, and where they lay. -/
structure GRow where
  f : Nat
  args : List IV
  ins : List RowP
  outs : List OutP
  v : IV
  rows : List RowP
  at_ : List Nat

def optD (d : Nat) : Option Nat → Nat
  | some b => b
  | none => d
/-- Where a row lies. -/
def phi (bs : List Nat) (d : Nat) (k : Nat) : Nat := optD d (PT.get none (tabOf bs 0 .e) k)
theorem phi_eq (bs : List Nat) (d k : Nat) : phi bs d k = (bs[k]?).getD d := by
  unfold phi
  rw [get_tabOf]
  by_cases h : k < bs.length
  · rw [if_pos (by omega)]
    simp only [Nat.sub_zero]
    rw [List.getElem?_eq_getElem h]; rfl
  · rw [if_neg (by omega), List.getElem?_eq_none (by omega)]
    rfl
def sigG (m : Nat) (bs : List Nat) (nx k : Nat) : Nat := match Nat.blt k m with
  | true => phi bs nx k
  | false => Nat.add nx (Nat.sub k m)
def tauG (m : Nat) (at_ : List Nat) (d k : Nat) : Nat := match Nat.blt k m with
  | true => k
  | false => phi at_ d (Nat.sub k m)
theorem sigG_lt {m : Nat} {bs : List Nat} {nx k : Nat} (h : k < m) : sigG m bs nx k = phi bs nx k := by
  unfold sigG; rw [show Nat.blt k m = true from by simpa using h]
theorem sigG_ge {m : Nat} {bs : List Nat} {nx k : Nat} (h : m ≤ k) : sigG m bs nx k = nx + (k - m) := by
  unfold sigG; rw [show Nat.blt k m = false from (by cases hh : Nat.blt k m with | false => rfl | true => exact absurd (show k < m by simpa using hh) (by omega))]; rfl
theorem tauG_lt {m : Nat} {bs : List Nat} {nx k : Nat} (h : k < m) : tauG m bs nx k = k := by
  unfold tauG; rw [show Nat.blt k m = true from by simpa using h]
theorem tauG_ge {m : Nat} {bs : List Nat} {nx k : Nat} (h : m ≤ k) : tauG m bs nx k = phi bs nx (k - m) := by
  unfold tauG; rw [show Nat.blt k m = false from (by cases hh : Nat.blt k m with | false => rfl | true => exact absurd (show k < m by simpa using hh) (by omega))]; rfl

def ascG : Nat → List Nat → Bool
  | _, [] => true
  | m, b :: bs => Nat.ble m b && ascG (Nat.succ b) bs
theorem ascG_get : ∀ {l : List Nat} {m : Nat}, ascG m l = true → (∀ (i b : Nat), l[i]? = some b → m ≤ b) ∧ ∀ (i j a b : Nat), i < j → l[i]? = some a → l[j]? = some b → a < b
  | [], m, _ => ⟨fun i b h => by simp at h, fun i j a b _ h => by simp at h⟩
  | x :: l, m, h => by
    simp only [ascG, Bool.and_eq_true] at h
    have h1 : m ≤ x := by simpa using h.1
    obtain ⟨k1, k2⟩ := ascG_get h.2
    refine ⟨fun i b hb => ?_, fun i j a b hij ha hb => ?_⟩
    · cases i with
      | zero => simp at hb; omega
      | succ i => have : x + 1 ≤ b := k1 i b (by simpa using hb); omega
    · cases j with
      | zero => omega
      | succ j =>
        simp only [List.getElem?_cons_succ] at hb
        cases i with
        | zero => simp at ha; have : x + 1 ≤ b := k1 j b hb; omega
        | succ i => exact k2 i j a b (by omega) (by simpa using ha) hb

def sameRow (f : Nat → Nat) (r q : RowP) : Bool := Nat.beq r.cs.length q.cs.length && Nat.beq r.elem q.elem && Nat.beq r.fz q.fz && Nat.beq r.tag q.tag && ieqs (rens f r.cs) q.cs
def isDead : IObj → Bool
  | .dead => true
  | _ => false
def outOk (f0 f : Nat → Nat) (q : RowP) (x : IObj) : OutP → Bool
  | .same => checkRow f0 q x
  | .row r => checkRow f r x && notB (sameRow f r q)
  | .dead => isDead x
def outsOk (f0 f : Nat → Nat) (s : St) : Nat → List RowP → List OutP → Bool
  | _, [], [] => true
  | i, q :: qs, o :: os => outOk f0 f q (s.get i) o && outsOk f0 f s (Nat.succ i) qs os
  | _, _, _ => false
def subSt (e : GRow) : St := addRows (fun b => b) e.ins s₀
def packOkG (e : GRow) : R → Bool
  | .ok v s => ieq (ren (tauG e.ins.length e.at_ s.next) e.v) v && outsOk (tauG e.ins.length [] s.next) (tauG e.ins.length e.at_ s.next) s 0 e.ins e.outs && rowsOk (tauG e.ins.length e.at_ s.next) s e.rows e.at_ && ascG e.ins.length e.at_
  | .no => false

def putOut (f : Nat → Nat) (b : Nat) (s : St) : OutP → St
  | .same => s
  | .row r => s.put b (rowAs f r)
  | .dead => s.put b .dead
def putOuts (f : Nat → Nat) : List Nat → List OutP → St → St
  | b :: bs, o :: os, s => putOuts f bs os (putOut f b s o)
  | _, _, s => s
def packAtG (e : GRow) (bs : List Nat) (s : St) : R :=
  .ok (ren (sigG e.ins.length bs s.next) e.v) (addRows (sigG e.ins.length bs s.next) e.rows (putOuts (sigG e.ins.length bs s.next) bs e.outs s))
def fitsG (e : GRow) (bs : List Nat) (args : List IV) (s : St) : Bool := ascG 0 bs && ieqs (rens (phi bs s.next) e.args) args && rowsOk (phi bs s.next) s e.ins bs
def findG (e : GRow) (args : List IV) (s : St) : List (List Nat) → Option R
  | [] => none
  | bs :: l => match fitsG e bs args s with
    | true => some (packAtG e bs s)
    | false => findG e args s l
def memoG (l : List (GRow × List (List Nat))) : Ext := ⟨fun f args s => List.rec (motive := fun _ => Option R) none (fun e _ ih => match Nat.beq e.1.f f with
  | true => match findG e.1 args s e.2 with
    | some r => some r
    | none => ih
  | false => ih) l⟩

theorem rowsOk_get {f : Nat → Nat} {s : St} : ∀ {rs : List RowP} {bs : List Nat}, rowsOk f s rs bs = true → rs.length = bs.length ∧ ∀ (j : Nat) (r : RowP) (b : Nat), rs[j]? = some r → bs[j]? = some b → checkRow f r (s.get b) = true := by
  intro rs bs h
  obtain ⟨k1, k2⟩ := rowsOk_inv h
  refine ⟨k1, fun j r b hr hb => ?_⟩
  have := k2 j r hr
  rw [List.getD_eq_getElem?_getD, hb] at this
  exact this
theorem outsOk_get {f0 f : Nat → Nat} {s : St} : ∀ {qs : List RowP} {os : List OutP} {i : Nat}, outsOk f0 f s i qs os = true → qs.length = os.length ∧ ∀ (j : Nat) (q : RowP) (o : OutP), qs[j]? = some q → os[j]? = some o → outOk f0 f q (s.get (i + j)) o = true
  | [], [], i, _ => ⟨rfl, fun j q o h => by simp at h⟩
  | [], _ :: _, _, h => by cases h
  | _ :: _, [], _, h => by cases h
  | q :: qs, o :: os, i, h => by
    simp only [outsOk, Bool.and_eq_true] at h
    obtain ⟨k1, k2⟩ := outsOk_get h.2
    refine ⟨by simp [k1], fun j q' o' hq ho => ?_⟩
    cases j with
    | zero => simp at hq ho; subst hq; subst ho; exact h.1
    | succ j =>
      simp only [List.getElem?_cons_succ] at hq ho
      have := k2 j q' o' hq ho
      rw [show i + (j + 1) = Nat.succ i + j from by show i + (j + 1) = i + 1 + j; omega]
      exact this

def outRow (f : Nat → Nat) (x : IObj) : OutP → IObj
  | .same => x
  | .row r => rowAs f r
  | .dead => .dead
theorem putOut_get (f : Nat → Nat) (b : Nat) (s : St) (o : OutP) (x : Nat) : (putOut f b s o).get x = if x = b then outRow f (s.get b) o else s.get x := by
  cases o with
  | same => simp only [putOut, outRow]; split <;> (try subst_vars) <;> rfl
  | row r => simp only [putOut]; rw [get_put]; rfl
  | dead => simp only [putOut]; rw [get_put]; rfl
theorem putOuts_next (f : Nat → Nat) : ∀ (bs : List Nat) (os : List OutP) (s : St), (putOuts f bs os s).next = s.next
  | [], [], s => rfl
  | [], _ :: _, s => rfl
  | _ :: _, [], s => rfl
  | b :: bs, o :: os, s => by
    rw [putOuts, putOuts_next f bs os]
    cases o <;> rfl
theorem putOuts_other (f : Nat → Nat) : ∀ (bs : List Nat) (os : List OutP) (s : St) (x : Nat), x ∉ bs → (putOuts f bs os s).get x = s.get x
  | [], [], s, x, _ => rfl
  | [], _ :: _, s, x, _ => rfl
  | _ :: _, [], s, x, _ => rfl
  | b :: bs, o :: os, s, x, h => by
    simp only [List.mem_cons, not_or] at h
    rw [putOuts, putOuts_other f bs os _ x h.2, putOut_get, if_neg h.1]
theorem putOuts_get (f : Nat → Nat) : ∀ (bs : List Nat) (os : List OutP) (s : St) (m k b : Nat) (o : OutP), ascG m bs = true → bs[k]? = some b → os[k]? = some o →
    (putOuts f bs os s).get b = outRow f (s.get b) o
  | [], _, s, m, k, b, o, _, h, _ => by simp at h
  | _ :: _, [], s, m, k, b, o, _, _, h => by simp at h
  | x :: bs, y :: os, s, m, k, b, o, ha, hb, ho => by
    rw [putOuts]
    simp only [ascG, Bool.and_eq_true] at ha
    obtain ⟨k1, k2⟩ := ascG_get ha.2
    cases k with
    | zero =>
      simp at hb ho; subst hb; subst ho
      rw [putOuts_other f bs os _ x (fun hm => by
        obtain ⟨i, hi⟩ := List.mem_iff_getElem?.1 hm
        have : x + 1 ≤ x := k1 i x hi
        omega), putOut_get, if_pos rfl]
    | succ k =>
      simp only [List.getElem?_cons_succ] at hb ho
      have hxb : x + 1 ≤ b := k1 k b hb
      rw [putOuts_get f bs os _ _ k b o ha.2 hb ho, putOut_get, if_neg (by omega)]

end Go.Eng
end

set_option linter.constructorNameAsVariable false
set_option linter.unusedVariables false
noncomputable section
namespace Go.Eng
open Go.RowKit
variable {P : Program} {γ : Gam}

theorem notB_true {b : Bool} (h : notB b = true) : b = false := by cases b with | false => rfl | true => cases h
theorem isDead_eq {x : IObj} (h : isDead x = true) : x = .dead := by cases x <;> first | rfl | cases h
theorem wrC_at {vs : List IV} {j : Nat} (h : j < vs.length) : some (PT.get undefI (wrC vs .e 0) j) = vs[j]? := by
  rw [get_wrC, dif_pos (by omega)]
  simp [h]
theorem rdC_wrC (vs : List IV) : rdC (wrC vs .e 0) vs.length 0 = vs := by
  apply List.ext_getElem?
  intro j
  by_cases h : j < vs.length
  · rw [get_rdC _ _ _ _ h, Nat.zero_add, wrC_at h]
  · rw [List.getElem?_eq_none (by rw [length_rdC]; omega), List.getElem?_eq_none (by omega)]

section
variable {e : GRow} {bs : List Nat} {s : St} {args : List IV} {ρ : Rho} {w : World}

def rhoS (ρ : Rho) (m : Nat) (f : Nat → Nat) : Rho := fun k => if k < m then ρ (f k) else none

/-- What it is for rows to fit. -/
structure Fits (γ : Gam) (e : GRow) (bs : List Nat) (args : List IV) (s : St) : Prop where
  asc : ascG 0 bs = true
  args : ∀ (ρ : Rho) (xs : List Value), VRs ρ γ args xs → VRs ρ γ (rens (phi bs s.next) e.args) xs
  len : e.ins.length = bs.length
  row : ∀ (j : Nat) (r : RowP) (b : Nat), e.ins[j]? = some r → bs[j]? = some b → ∃ c, s.get b = .cells c r.cs.length r.elem r.fz r.tag ∧ ∀ (i : Nat) (hi : i < r.cs.length) (ρ : Rho) (x : Value), VR ρ γ (ren (phi bs s.next) r.cs[i]) x ↔ VR ρ γ (PT.get undefI c i) x
theorem row_iff {γ : Gam} {f : Nat → Nat} {cs : List IV} {c : PT IV} (h : rens f cs = rdC c cs.length 0) (i : Nat) (hi : i < cs.length) (ρ : Rho) (x : Value) : VR ρ γ (ren f cs[i]) x ↔ VR ρ γ (PT.get undefI c i) x := by
  have f1 : Option.some (PT.get undefI c i) = (rens f cs)[i]? := by rw [h, get_rdC _ _ _ _ hi]; simp
  rw [rens_get, List.getElem?_eq_getElem hi] at f1
  rw [Option.some.inj f1]
theorem fits_of (h : fitsG e bs args s = true) : Fits γ e bs args s := by
  unfold fitsG at h
  simp only [Bool.and_eq_true] at h
  obtain ⟨⟨h1, h2⟩, h3⟩ := h
  obtain ⟨k1, k2⟩ := rowsOk_get h3
  exact ⟨h1, fun ρ xs hx => by rw [ieqs_eq h2]; exact hx, k1, fun j r b hr hb => let ⟨c, q1, q2⟩ := checkRow_inv (k2 j r b hr hb); ⟨c, q1, fun i hi ρ x => row_iff q2 i hi ρ x⟩⟩

theorem Fits.lt (h : Fits γ e bs args s) (hrel : Rel P γ ρ s w) {k b : Nat} (hb : bs[k]? = some b) : b < s.next := by
  have hk : k < bs.length := by
    rcases Nat.lt_or_ge k bs.length with h | h
    · exact h
    · rw [List.getElem?_eq_none h] at hb; cases hb
  obtain ⟨c, h1, _⟩ := h.row k (e.ins[k]'(by rw [h.len]; exact hk)) b (List.getElem?_eq_getElem _) hb
  rcases Nat.lt_or_ge b s.next with h | h
  · exact h
  · rw [hrel.fresh b h] at h1; cases h1
theorem Fits.plc (h : Fits γ e bs args s) {k : Nat} (hk : k < e.ins.length) : ∃ b, bs[k]? = some b ∧ phi bs s.next k = b := by
  have : k < bs.length := by rw [← h.len]; exact hk
  refine ⟨bs[k], List.getElem?_eq_getElem this, ?_⟩
  rw [phi_eq, List.getElem?_eq_getElem this]; rfl
theorem Fits.nplc (h : Fits γ e bs args s) {k : Nat} (hk : ¬ k < e.ins.length) : phi bs s.next k = s.next := by
  rw [phi_eq, List.getElem?_eq_none (by rw [← h.len]; omega)]; rfl
theorem Fits.names (h : Fits γ e bs args s) (hrel : Rel P γ ρ s w) : ∀ b p, ρ (phi bs s.next b) = some p → rhoS ρ e.ins.length (phi bs s.next) b = some p := fun b p hp => by
  by_cases hk : b < e.ins.length
  · show (if b < e.ins.length then _ else _) = _
    rw [if_pos hk]; exact hp
  · rw [h.nplc hk] at hp
    exact absurd (hrel.bound _ p hp).1 (by omega)

theorem sub_get {k : Nat} {r : RowP} (h : e.ins[k]? = some r) : (subSt e).get k = rowAs (fun b => b) r := by
  have := addRows_new (fun b => b) e.ins s₀ k r h
  rw [show s₀.next + k = k from Nat.zero_add k] at this
  exact this
theorem sub_next : (subSt e).next = e.ins.length := by
  show (addRows _ e.ins s₀).next = _
  rw [addRows_next]; exact Nat.zero_add _
theorem sub_far {k : Nat} (h : e.ins.length ≤ k) : (subSt e).get k = .dead :=
  addRows_far _ _ s₀ k (fun b _ => rfl) (by show 0 + _ ≤ _; omega)

theorem Fits.rel (h : Fits γ e bs args s) (hrel : Rel P γ ρ s w) : Rel P γ (rhoS ρ e.ins.length (phi bs s.next)) (subSt e) w := by
  have inv : ∀ k p, rhoS ρ e.ins.length (phi bs s.next) k = Option.some p → ∃ b r c, k < e.ins.length ∧ bs[k]? = Option.some b ∧ e.ins[k]? = Option.some r ∧ ρ b = Option.some p ∧ s.get b = .cells c r.cs.length r.elem r.fz r.tag ∧ ∀ (i : Nat) (hi : i < r.cs.length) (ρ : Rho) (x : Value), VR ρ γ (ren (phi bs s.next) r.cs[i]) x ↔ VR ρ γ (PT.get undefI c i) x := fun k p hk => by
    have hk : (if k < e.ins.length then ρ (phi bs s.next k) else Option.none) = Option.some p := hk
    by_cases hm : k < e.ins.length
    · rw [if_pos hm] at hk
      obtain ⟨b, h1, h2⟩ := h.plc hm
      rw [h2] at hk
      have h3 : e.ins[k]? = Option.some e.ins[k] := List.getElem?_eq_getElem hm
      obtain ⟨c, h4, h5⟩ := h.row k _ b h3 h1
      exact ⟨b, _, c, hm, h1, h3, hk, h4, h5⟩
    · rw [if_neg hm] at hk; cases hk
  refine ⟨fun k q hk hd => ?_, fun k q hk => ?_, fun k hk => ?_, fun k k' q q' hk hk' _ _ hne => ?_⟩
  · obtain ⟨b, r, c, h1, h2, h3, h4, h5, h6⟩ := inv k q hk
    obtain ⟨o, q1, q2⟩ := hrel.live b q h4 (by rw [h5]; exact id)
    refine ⟨o, q1, ?_⟩
    rw [h5] at q2
    rw [sub_get h3]
    unfold rowAs
    refine OR.turn q2 fun j hj v' hv' => ?_
    have f2 : Option.some (PT.get undefI (wrC (rens (fun b => b) r.cs) .e 0) j) = (rens (fun b => b) r.cs)[j]? := wrC_at (by rw [length_rens]; exact hj)
    rw [rens_get, List.getElem?_eq_getElem hj] at f2
    have hv' := (h6 j hj ρ v').2 hv'
    rw [Option.some.inj f2]
    exact ren_rel (h.names hrel) _ hv'
  · obtain ⟨b, r, c, h1, h2, h3, h4, h5, h6⟩ := inv k q hk
    exact ⟨by rw [sub_next]; exact h1, (hrel.bound b q h4).2⟩
  · rw [sub_next] at hk
    exact sub_far hk
  · obtain ⟨b, r, c, h1, h2, h3, h4, h5, h6⟩ := inv k q hk
    obtain ⟨b', r', c', h1', h2', h3', h4', h5', h6'⟩ := inv k' q' hk'
    refine hrel.apart b b' q q' h4 h4' (by rw [h5]; exact id) (by rw [h5']; exact id) fun he => ?_
    subst he
    obtain ⟨_, a2⟩ := ascG_get h.asc
    rcases Nat.lt_trichotomy k k' with hlt | hlt | hlt
    · have := a2 k k' b b hlt h2 h2'; omega
    · exact hne hlt
    · have := a2 k' k b b hlt h2' h2; omega

theorem packG_ret (hfit : Fits γ e bs args s) (hrel : Rel P γ ρ s w) {v1 : IV} {s1 : St} (hp : packOkG e (.ok v1 s1) = true) {ρ1 : Rho} {w' : World} {v' : Value}
    (g : Goes (rhoS ρ e.ins.length (phi bs s.next)) (subSt e) w ρ1 s1 w') (h1 : Rel P γ ρ1 s1 w') (hv : VR ρ1 γ v1 v') :
    ∃ ρ', Goes ρ s w ρ' (addRows (sigG e.ins.length bs s.next) e.rows (putOuts (sigG e.ins.length bs s.next) bs e.outs s)) w' ∧ Rel P γ ρ' (addRows (sigG e.ins.length bs s.next) e.rows (putOuts (sigG e.ins.length bs s.next) bs e.outs s)) w' ∧ VR ρ' γ (ren (sigG e.ins.length bs s.next) e.v) v' := by
  unfold packOkG at hp
  simp only [Bool.and_eq_true] at hp
  obtain ⟨⟨⟨k1, k2⟩, k3⟩, k4⟩ := hp
  have k1 := ieq_eq k1
  obtain ⟨o1, o2⟩ := outsOk_get k2
  obtain ⟨r1, r2⟩ := rowsOk_get k3
  obtain ⟨a1, a2⟩ := ascG_get k4
  obtain ⟨b1, b2⟩ := ascG_get hfit.asc
  generalize hm : e.ins.length = m at *
  generalize hφ : phi bs s.next = φ at *
  have hlen : bs.length = m := by rw [← hfit.len]; exact hm
  -- input places
  have inB : ∀ k, k < m → ∃ b r c o, bs[k]? = some b ∧ φ k = b ∧ e.ins[k]? = some r ∧ e.outs[k]? = some o ∧ b < s.next ∧ s.get b = .cells c r.cs.length r.elem r.fz r.tag ∧ (∀ (i : Nat) (hi : i < r.cs.length) (ρ : Rho) (x : Value), VR ρ γ (ren φ r.cs[i]) x ↔ VR ρ γ (PT.get undefI c i) x) ∧ outOk (tauG m [] s1.next) (tauG m e.at_ s1.next) r (s1.get k) o = true := fun k hk => by
    have hk' : k < e.ins.length := by omega
    obtain ⟨b, h2, h3⟩ := hfit.plc hk'
    have h4 : e.ins[k]? = some e.ins[k] := List.getElem?_eq_getElem hk'
    obtain ⟨c, h5, h6⟩ := hfit.row k _ b h4 h2
    have ho : k < e.outs.length := by omega
    have h7 : e.outs[k]? = some e.outs[k] := List.getElem?_eq_getElem ho
    have h8 := o2 k _ _ h4 h7
    rw [Nat.zero_add] at h8
    exact ⟨b, _, c, _, h2, hφ ▸ h3, h4, h7, hfit.lt hrel h2, h5, hφ ▸ h6, h8⟩
  have rhoSk : ∀ k b, k < m → φ k = b → rhoS ρ m φ k = ρ b := fun k b hk hb => by
    show (if k < m then ρ (φ k) else none) = _
    rw [if_pos hk, hb]
  have rhoSge : ∀ k p, rhoS ρ m φ k = some p → k < m := fun k p hk => by
    have hk : (if k < m then ρ (φ k) else none) = some p := hk
    by_cases h : k < m
    · exact h
    · rw [if_neg h] at hk; cases hk
  have subk : ∀ k r, e.ins[k]? = some r → (subSt e).get k = rowAs (fun b => b) r := fun k r h => sub_get h
  have subn : (subSt e).next = m := by rw [sub_next]; exact hm
  have subLive : ∀ k r, e.ins[k]? = some r → ¬ Dead ((subSt e).get k) := fun k r h => by rw [subk k r h]; exact id
  -- a row that isn't born stays
  have unb : ∀ k b, k < m → φ k = b → ρ b = none → ρ1 k = none ∧ s1.get k = (subSt e).get k := fun k b hk hb hn => g.unborn k (by rw [subn]; exact hk) (by rw [rhoSk k b hk hb]; exact hn)
  have rho1 : ∀ k b q, k < m → φ k = b → ρ1 k = some q → ρ b = some q := fun k b q hk hb hq => by
    cases hn : ρ b with
    | none => rw [(unb k b hk hb hn).1] at hq; cases hq
    | some p =>
      have := g.le k p (by rw [rhoSk k b hk hb]; exact hn)
      rw [this] at hq; exact hq
  have rho1' : ∀ k b q, k < m → φ k = b → ρ b = some q → ρ1 k = some q := fun k b q hk hb hq => g.le k q (by rw [rhoSk k b hk hb]; exact hq)
  have nx : (addRows (sigG m bs s.next) e.rows (putOuts (sigG m bs s.next) bs e.outs s)).next = s.next + e.rows.length := by rw [addRows_next, putOuts_next]
  have rowNew : ∀ (j : Nat) (r : RowP), e.rows[j]? = some r → (addRows (sigG m bs s.next) e.rows (putOuts (sigG m bs s.next) bs e.outs s)).get (s.next + j) = rowAs (sigG m bs s.next) r := fun j r hr => by
    have := addRows_new (sigG m bs s.next) e.rows (putOuts (sigG m bs s.next) bs e.outs s) j r hr
    rwa [putOuts_next] at this
  have rowOld : ∀ x, x < s.next → (addRows (sigG m bs s.next) e.rows (putOuts (sigG m bs s.next) bs e.outs s)).get x = (putOuts (sigG m bs s.next) bs e.outs s).get x := fun x hx => addRows_old _ _ _ _ (by rw [putOuts_next]; exact hx)
  have rowOther : ∀ x, x < s.next → x ∉ bs → (addRows (sigG m bs s.next) e.rows (putOuts (sigG m bs s.next) bs e.outs s)).get x = s.get x := fun x hx hn => by rw [rowOld x hx, putOuts_other _ _ _ _ _ hn]
  have rowIn : ∀ k b o, bs[k]? = some b → b < s.next → e.outs[k]? = some o → (addRows (sigG m bs s.next) e.rows (putOuts (sigG m bs s.next) bs e.outs s)).get b = outRow (sigG m bs s.next) (s.get b) o := fun k b o hb hlt ho => by rw [rowOld b hlt, putOuts_get _ _ _ _ _ k b o hfit.asc hb ho]
  have memB : ∀ x, x ∈ bs → ∃ k, k < m ∧ bs[k]? = some x := fun x hx => by
    obtain ⟨i, hi⟩ := List.mem_iff_getElem?.1 hx
    refine ⟨i, ?_, hi⟩
    rcases Nat.lt_or_ge i m with h | h
    · exact h
    · rw [List.getElem?_eq_none (by omega)] at hi; cases hi
  have liveOld : ∀ x, x < s.next → ¬ Dead ((addRows (sigG m bs s.next) e.rows (putOuts (sigG m bs s.next) bs e.outs s)).get x) → ¬ Dead (s.get x) := fun x hx hd => by
    by_cases hb : x ∈ bs
    · obtain ⟨k, hk, hbk⟩ := memB x hb
      obtain ⟨b, r, c, o, h2, h3, h4, h5, h6, h7, h8, h9⟩ := inB k hk
      rw [h2] at hbk; cases hbk
      rw [h7]; exact id
    · rw [rowOther x hx hb] at hd; exact hd
  have h1n : ∀ b, s1.next ≤ b → ρ1 b = none := fun b hb => by
    cases h : ρ1 b with
    | none => rfl
    | some q => exact absurd (h1.bound b q h).1 (by omega)
  let ρ' : Rho := fun x => if x < s.next then ρ x else ρ1 (tauG m e.at_ s1.next (m + (x - s.next)))
  have old : ∀ x, x < s.next → ρ' x = ρ x := fun x hx => if_pos hx
  have new : ∀ x, ¬ x < s.next → ρ' x = ρ1 (tauG m e.at_ s1.next (m + (x - s.next))) := fun x hx => if_neg hx
  have inK : ∀ x q, ¬ x < s.next → ρ' x = some q → ∃ j r b, x = s.next + j ∧ e.rows[j]? = some r ∧ e.at_[j]? = some b ∧ ρ1 b = some q ∧ checkRow (tauG m e.at_ s1.next) r (s1.get b) = true := fun x q hx hq => by
    rw [new x hx, tauG_ge (by omega), show m + (x - s.next) - m = x - s.next from by omega, phi_eq] at hq
    by_cases hj : x - s.next < e.at_.length
    · rw [List.getElem?_eq_getElem hj] at hq
      have hr : e.rows[x - s.next]? = some (e.rows[x - s.next]'(by omega)) := List.getElem?_eq_getElem _
      exact ⟨x - s.next, _, _, by omega, hr, List.getElem?_eq_getElem hj, hq, r2 _ _ _ hr (List.getElem?_eq_getElem hj)⟩
    · rw [List.getElem?_eq_none (by omega)] at hq
      have hq : ρ1 s1.next = some q := hq
      rw [h1n _ (Nat.le_refl _)] at hq; cases hq
  have liveNew : ∀ (r : RowP) (b : Nat), checkRow (tauG m e.at_ s1.next) r (s1.get b) = true → ¬ Dead (s1.get b) := fun r b hc => by
    obtain ⟨c, q, _⟩ := checkRow_inv hc
    rw [q]; exact id
  have names : ∀ k q, ρ1 (tauG m e.at_ s1.next k) = some q → ρ' (sigG m bs s.next k) = some q := fun k q hq => by
    by_cases hk : k < m
    · rw [tauG_lt hk] at hq
      obtain ⟨b, r, c, o, h2, h3, h4, h5, h6, h7, h8, h9⟩ := inB k hk
      rw [sigG_lt hk, hφ, h3, old b h6]
      exact rho1 k b q hk h3 hq
    · rw [sigG_ge (by omega), new _ (by omega), show m + (s.next + (k - m) - s.next) = k from by omega]
      exact hq
  -- what is new lies not where old things lie
  have apartON : ∀ x q q' (r : RowP) (b : Nat) (j : Nat), x < s.next → ρ x = some q → ¬ Dead ((addRows (sigG m bs s.next) e.rows (putOuts (sigG m bs s.next) bs e.outs s)).get x) → e.at_[j]? = some b → checkRow (tauG m e.at_ s1.next) r (s1.get b) = true → ρ1 b = some q' → q.blk ≠ q'.blk := fun x q q' r b j hx hq hd hj hc hq' he => by
    have hlt := (hrel.bound x q hq).2
    by_cases hxb : x ∈ bs
    · obtain ⟨k, hk, hbk⟩ := memB x hxb
      obtain ⟨b0, r0, c, o, h2, h3, h4, h5, h6, h7, h8, h9⟩ := inB k hk
      rw [h2] at hbk; have hbx := Option.some.inj hbk; subst hbx
      rw [rowIn k b0 o h2 h6 h5] at hd
      have hl1 : ¬ Dead (s1.get k) := by
        cases o with
        | same => obtain ⟨c', q0, _⟩ := checkRow_inv h9; rw [q0]; exact id
        | row r' =>
          simp only [outOk, Bool.and_eq_true] at h9
          obtain ⟨c', q0, _⟩ := checkRow_inv h9.1; rw [q0]; exact id
        | dead => exact absurd trivial hd
      exact h1.apart k b q q' (rho1' k b0 q hk h3 hq) hq' hl1 (liveNew r b hc) (by have := a1 j b hj; omega) he
    · obtain ⟨k0, p0, e1, e2, e3⟩ := g.born b q' hq' (liveNew r b hc) (he ▸ hlt)
      have hk0 := rhoSge k0 p0 e1
      obtain ⟨b0, r0, c, o, h2, h3, h4, h5, h6, h7, h8, h9⟩ := inB k0 hk0
      rw [rhoSk k0 b0 hk0 h3] at e1
      refine hrel.apart x b0 q p0 hq e1 (liveOld x hx hd) (by rw [h7]; exact id) (fun h => hxb ?_) (by rw [he, e3])
      rw [h]
      exact List.mem_iff_getElem?.2 ⟨k0, h2⟩
  have turnRow : ∀ {p : Pl} {o : Obj} {r : RowP} {c : PT IV} {len elem fz tag : Nat}, OR P ρ1 γ p (.cells c r.cs.length elem fz tag) o → rens (tauG m e.at_ s1.next) r.cs = rdC c r.cs.length 0 →
      OR P ρ' γ p (.cells (wrC (rens (sigG m bs s.next) r.cs) .e 0) r.cs.length elem fz tag) o := fun {p o r c len elem fz tag} q2 e2 => by
    refine OR.turn q2 fun i hi v' hv' => ?_
    have f1 : some (PT.get undefI c i) = (rens (tauG m e.at_ s1.next) r.cs)[i]? := by rw [e2, get_rdC _ _ _ _ hi]; simp
    have f2 : some (PT.get undefI (wrC (rens (sigG m bs s.next) r.cs) .e 0) i) = (rens (sigG m bs s.next) r.cs)[i]? := wrC_at (by rw [length_rens]; exact hi)
    rw [rens_get, List.getElem?_eq_getElem hi] at f1 f2
    rw [Option.some.inj f1] at hv'
    rw [Option.some.inj f2]
    exact ren_rel names _ hv'
  refine ⟨ρ', ⟨?_, ?_, ?_, ?_, ?_, g.size, g.os, g.tape, g.output⟩, ⟨?_, ?_, ?_, ?_⟩, ?_⟩
  · intro x q hq
    rw [old x (hrel.bound x q hq).1]; exact hq
  · intro x hx hn
    refine ⟨by rw [old x hx]; exact hn, ?_⟩
    by_cases hb : x ∈ bs
    · obtain ⟨k, hk, hbk⟩ := memB x hb
      obtain ⟨b, r, c, o, h2, h3, h4, h5, h6, h7, h8, h9⟩ := inB k hk
      rw [h2] at hbk; have hbx := Option.some.inj hbk; subst hbx
      rw [rowIn k b o h2 h6 h5]
      have hsame : s1.get k = rowAs (fun b => b) r := by rw [(unb k b hk h3 hn).2, subk k r h4]
      cases o with
      | same => rfl
      | dead =>
        have := isDead_eq h9
        rw [hsame] at this; cases this
      | row r' =>
        exfalso
        simp only [outOk, Bool.and_eq_true] at h9
        obtain ⟨h9, h10⟩ := h9
        have h10 := notB_true h10
        obtain ⟨c', q0, q1⟩ := checkRow_inv h9
        rw [hsame] at q0
        unfold rowAs at q0
        injection q0 with e1 e2 e3 e4 e5
        have q2 : rens (tauG m e.at_ s1.next) r'.cs = r.cs := by
          rw [q1, ← e1, ← e2, rens_id]
          exact rdC_wrC r.cs
        have q3 : ieqs (rens (tauG m e.at_ s1.next) r'.cs) r.cs = true := by
          unfold checkRow at h9
          rw [hsame] at h9
          simp only [rowAs, Bool.and_eq_true] at h9
          have := h9.2
          rwa [rens_id, rdC_wrC] at this
        have : sameRow (tauG m e.at_ s1.next) r' r = true := by
          unfold sameRow
          rw [q3, ← e2, e3, e4, e5]
          simp
        rw [this] at h10; cases h10
    · exact rowOther x hx hb
  · rw [nx]; omega
  · intro x hx hn
    refine g.others x hx fun k q hk hd => ?_
    have hkm := rhoSge k q hk
    obtain ⟨b, r, c, o, h2, h3, h4, h5, h6, h7, h8, h9⟩ := inB k hkm
    rw [rhoSk k b hkm h3] at hk
    exact hn b q hk (by rw [h7]; exact id)
  · intro x q hq hd hlt
    by_cases hx : x < s.next
    · rw [old x hx] at hq
      exact ⟨x, q, hq, liveOld x hx hd, rfl⟩
    · obtain ⟨j, r, b, rfl, hr, hj, hq', hc⟩ := inK x q hx hq
      obtain ⟨k0, p0, e1, e2, e3⟩ := g.born b q hq' (liveNew r b hc) hlt
      have hk0 := rhoSge k0 p0 e1
      obtain ⟨b0, r0, c, o, h2, h3, h4, h5, h6, h7, h8, h9⟩ := inB k0 hk0
      rw [rhoSk k0 b0 hk0 h3] at e1
      exact ⟨b0, p0, e1, by rw [h7]; exact id, e3⟩
  · intro x q hq hd
    by_cases hx : x < s.next
    · rw [old x hx] at hq
      by_cases hb : x ∈ bs
      · obtain ⟨k, hk, hbk⟩ := memB x hb
        obtain ⟨b, r, c, o, h2, h3, h4, h5, h6, h7, h8, h9⟩ := inB k hk
        rw [h2] at hbk; have hbx := Option.some.inj hbk; subst hbx
        rw [rowIn k b o h2 h6 h5] at hd ⊢
        have hq1 := rho1' k b q hk h3 hq
        cases o with
        | dead => exact absurd trivial hd
        | same =>
          obtain ⟨c', q0, q1⟩ := checkRow_inv h9
          obtain ⟨ob, p1, p2⟩ := h1.live k q hq1 (by rw [q0]; exact id)
          refine ⟨ob, p1, ?_⟩
          rw [q0] at p2
          show OR P ρ' γ q (s.get b) ob
          rw [h7]
          refine OR.turn p2 fun i hi v' hv' => ?_
          have f1 : some (PT.get undefI c' i) = (rens (tauG m [] s1.next) r.cs)[i]? := by rw [q1, get_rdC _ _ _ _ hi]; simp
          rw [rens_get, List.getElem?_eq_getElem hi] at f1
          rw [Option.some.inj f1] at hv'
          refine (h8 i hi ρ' v').1 (ren_rel (fun a p ha => ?_) _ hv')
          by_cases ham : a < m
          · rw [tauG_lt ham] at ha
            obtain ⟨b', _, _, _, h2', h3', _, _, h6', _, _, _⟩ := inB a ham
            rw [h3', old b' h6']
            exact rho1 a b' p ham h3' ha
          · rw [tauG_ge (by omega), phi_eq] at ha
            simp only [List.getElem?_nil, Option.getD_none] at ha
            rw [h1n _ (Nat.le_refl _)] at ha; cases ha
        | row r' =>
          simp only [outOk, Bool.and_eq_true] at h9
          obtain ⟨c', q0, q1⟩ := checkRow_inv h9.1
          obtain ⟨ob, p1, p2⟩ := h1.live k q hq1 (by rw [q0]; exact id)
          refine ⟨ob, p1, ?_⟩
          rw [q0] at p2
          exact turnRow (len := 0) p2 q1
      · rw [rowOther x hx hb] at hd ⊢
        obtain ⟨o, q1, q2⟩ := hrel.live x q hq hd
        refine ⟨o, ?_, q2.mono fun y z hy => by rw [old y (hrel.bound y z hy).1]; exact hy⟩
        rw [g.others q.blk (hrel.bound x q hq).2 fun k q' hk hd' => ?_]
        · exact q1
        · have hkm := rhoSge k q' hk
          obtain ⟨b, r, c, o', h2, h3, h4, h5, h6, h7, h8, h9⟩ := inB k hkm
          rw [rhoSk k b hkm h3] at hk
          exact hrel.apart b x q' q hk hq (by rw [h7]; exact id) hd fun h => hb (by rw [← h]; exact List.mem_iff_getElem?.2 ⟨k, h2⟩)
    · obtain ⟨j, r, b, rfl, hr, hj, hq', hc⟩ := inK x q hx hq
      obtain ⟨c, e1, e2⟩ := checkRow_inv hc
      obtain ⟨o, q1, q2⟩ := h1.live b q hq' (liveNew r b hc)
      refine ⟨o, q1, ?_⟩
      rw [rowNew j r hr]
      rw [e1] at q2
      exact turnRow (len := 0) q2 e2
  · intro x q hq
    by_cases hx : x < s.next
    · rw [old x hx] at hq
      exact ⟨by rw [nx]; omega, Nat.lt_of_lt_of_le (hrel.bound x q hq).2 g.size⟩
    · obtain ⟨j, r, b, rfl, hr, hj, hq', hc⟩ := inK x q hx hq
      have : j < e.rows.length := by
        rcases Nat.lt_or_ge j e.rows.length with h | h
        · exact h
        · rw [List.getElem?_eq_none h] at hr; cases hr
      exact ⟨by rw [nx]; omega, (h1.bound _ q hq').2⟩
  · intro x hx
    rw [nx] at hx
    refine addRows_far _ _ _ x (fun b hb => ?_) (by rw [putOuts_next]; exact hx)
    rw [putOuts_next] at hb
    rw [putOuts_other _ _ _ _ _ (fun hm' => by
      obtain ⟨k, hk, hbk⟩ := memB b hm'
      have := hfit.lt hrel hbk; omega)]
    exact hrel.fresh b hb
  · intro x y q q' hq hq' hd hd' hne
    by_cases hx : x < s.next
    · rw [old x hx] at hq
      by_cases hy : y < s.next
      · rw [old y hy] at hq'
        exact hrel.apart x y q q' hq hq' (liveOld x hx hd) (liveOld y hy hd') hne
      · obtain ⟨j, r, b, rfl, hr, hj, hq'', hc⟩ := inK y q' hy hq'
        exact apartON x q q' r b j hx hq hd hj hc hq''
    · obtain ⟨i, r, b, rfl, hr, hi, hq1, hc⟩ := inK x q hx hq
      by_cases hy : y < s.next
      · rw [old y hy] at hq'
        exact fun h => apartON y q' q r b i hy hq' hd' hi hc hq1 h.symm
      · obtain ⟨j, r', b', rfl, hr', hj, hq2, hc'⟩ := inK y q' hy hq'
        refine h1.apart _ _ q q' hq1 hq2 (liveNew r b hc) (liveNew r' b' hc') ?_
        rcases Nat.lt_trichotomy i j with h | h | h
        · have := a2 i j b b' h hi hj; omega
        · subst h; exact absurd rfl hne
        · have := a2 j i b' b h hj hi; omega
  · rw [← k1] at hv
    exact ren_rel names _ hv
end
end Go.Eng
end

set_option linter.constructorNameAsVariable false
set_option linter.unusedVariables false
noncomputable section
namespace Go.Eng
open Go.RowKit
variable {P : Program} {γ : Gam}

theorem findG_some {e : GRow} {args : List IV} {s : St} {r : R} : ∀ {l : List (List Nat)}, findG e args s l = some r → ∃ bs, Fits γ e bs args s ∧ r = packAtG e bs s
  | [], h => by cases h
  | bs :: l, h => by
    unfold findG at h
    cases hf : fitsG e bs args s with
    | true =>
      rw [hf] at h
      cases h
      exact ⟨bs, fits_of hf, rfl⟩
    | false =>
      rw [hf] at h
      exact findG_some h
theorem memoG_some {f : Nat} {args : List IV} {s : St} {r : R} : ∀ {l : List (GRow × List (List Nat))}, (memoG l).get f args s = some r → ∃ e ∈ l, ∃ bs, e.1.f = f ∧ Fits γ e.1 bs args s ∧ r = packAtG e.1 bs s
  | [], h => by cases h
  | e :: l, h => by
    have ih := fun h => memoG_some (f := f) (args := args) (s := s) (r := r) (l := l) h
    have h : (match Nat.beq e.1.f f with
      | true => match findG e.1 args s e.2 with
        | some r => some r
        | none => (memoG l).get f args s
      | false => (memoG l).get f args s) = some r := h
    cases hb : Nat.beq e.1.f f with
    | false =>
      rw [hb] at h
      obtain ⟨e', h1, h2⟩ := ih h
      exact ⟨e', List.mem_cons_of_mem _ h1, h2⟩
    | true =>
      rw [hb] at h
      simp only at h
      cases hg : findG e.1 args s e.2 with
      | none =>
        rw [hg] at h
        obtain ⟨e', h1, h2⟩ := ih h
        exact ⟨e', List.mem_cons_of_mem _ h1, h2⟩
      | some r' =>
        rw [hg] at h
        cases h
        obtain ⟨bs, h1, h2⟩ := findG_some hg
        exact ⟨e, List.mem_cons_self, bs, Nat.eq_of_beq_eq_true hb, h1, h2⟩

/-- An entry that a run has shown. -/
def GOk (P : Program) (γ : Gam) (e : GRow) : Prop := ∀ args' ρ w, Rel P γ ρ (subSt e) w → Glob P ρ → VRs ρ γ e.args args' → ∃ v1 s1, packOkG e (.ok v1 s1) = true ∧ Calls P e.f args'.toArray w (Ret P γ ρ (subSt e) w v1 s1)
theorem gOk_of (hm : P.follows .mixedOrders = true) {X : Ext} (hX : ExtOk P γ X) {m : Nat} {e : GRow} (h : packOkG e ((run P X m).f e.f e.args (subSt e) .ok) = true) : GOk P γ e := by
  intro args' ρ w hr hg hv
  cases hrun : (run P X m).f e.f e.args (subSt e) .ok with
  | no => rw [hrun] at h; cases h
  | ok v1 s1 =>
    rw [hrun] at h
    obtain ⟨v2, s2, h1, h2⟩ := (run_ok (drawn_ok hm) hX m).f e.f _ _ .ok v1 s1 hrun
    cases h1
    exact ⟨v1, s1, h, h2 ρ w args' hr hg hv⟩
theorem memoG_ok {l : List (GRow × List (List Nat))} (h : ∀ e ∈ l, GOk P γ e.1) : ExtOk P γ (memoG l) := by
  intro f args s v s' hg ρ w args' hr hgl hv
  obtain ⟨e, he, bs, rfl, hf, hp⟩ := memoG_some hg
  have hrel := hf.rel hr
  have hargs : VRs (rhoS ρ e.1.ins.length (phi bs s.next)) γ e.1.args args' := by
    have hv := hf.args _ _ hv
    have := rens_rel (g := fun b => b) (hf.names hr) _ hv
    rwa [rens_id] at this
  have hglob : Glob P (rhoS ρ e.1.ins.length (phi bs s.next)) := by
    first | exact trivial | (intro b hb; cases hb)
  obtain ⟨v1, s1, q1, q2⟩ := h e he args' _ w hrel hglob hargs
  refine q2.mono ?_
  rintro x w' ⟨v', ρ1, rfl, g1, g2, g3⟩
  obtain ⟨ρ', p1, p2, p3⟩ := packG_ret hf hr q1 g1 g2 g3
  unfold packAtG at hp
  injection hp with e1 e2
  subst e1; subst e2
  exact ⟨v', ρ', rfl, p1, p2, p3⟩
end Go.Eng
end
