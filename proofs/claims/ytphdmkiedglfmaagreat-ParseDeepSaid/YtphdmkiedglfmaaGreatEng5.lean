/- A part of the proof: an interpreter of the program, shown right once, and the laws that it computes. -/
import Derived.Test.YtphdmkiedglfmaaGreatEng2
import Derived.Laws.Strings
set_option linter.constructorNameAsVariable false
set_option linter.unusedVariables false
namespace Go.Eng
variable {P : Program} {γ : Gam}

/-- Entries of a map. -/
inductive EntR (ρ : Rho) (γ : Gam) : List (IV × IV × Nat) → List MapEntry → Prop where
  | nil : EntR ρ γ [] []
  | cons (k v : IV) (e : MapEntry) (es : List (IV × IV × Nat)) (es' : List MapEntry) (hk : VR ρ γ k e.key) (hv : VR ρ γ v e.val) (h : EntR ρ γ es es') : EntR ρ γ ((k, v, e.born) :: es) (e :: es')

/-- What an ideal row stands for. -/
inductive OR (P : Program) (ρ : Rho) (γ : Gam) (p : Pl) : IObj → Obj → Prop where
  | cells (c : PT IV) (len elem fz tag : Nat) (arr : Array Value) (fr : Nat × Nat) (hl : p.shift + len ≤ p.lim) (ha : p.lim ≤ arr.size)
      (hc : ∀ j, j < len → ∃ v', arr[p.shift + j]? = some v' ∧ VR ρ γ (PT.get undefI c j) v')
      (hf : ∀ j, p.shift + fz ≤ j → j < p.lim → ¬ (fr.1 ≤ j ∧ j < fr.2))
      (hs : tag ≠ 1 → (fr.1 = fr.2 ∨ fr.2 ≤ p.shift + fz) ∧ (fz = 0 → fr.1 = fr.2)) (ht : tag = 0 → p.shift = 0) (hz : size P elem = some p.sz) : OR P ρ γ p (.cells c len elem fz tag) (.cells arr elem fr)
  | map (es : List (IV × IV × Nat)) (cl : Nat) (l : Array MapEntry) (h : EntR ρ γ es l.toList) : OR P ρ γ p (.map es cl) (.map l cl)
  | siter (rest : List Nat) (pos : Nat) (s : ByteArray) (h : (s.data.toList.map UInt8.toNat).drop pos = rest.map (den γ)) (hc : ∀ c ∈ rest, CodeOk γ c) (hp : pos ≤ s.size) (h0 : p.shift = 0) : OR P ρ γ p (.siter rest pos) (.stringIter s pos)

theorem EntR.mono {ρ ρ' : Rho} (hl : Le ρ ρ') {es : List (IV × IV × Nat)} {l : List MapEntry} (h : EntR ρ γ es l) : EntR ρ' γ es l := by
  induction h with
  | nil => exact .nil
  | cons k v e es es' hk hv h ih => exact .cons k v e es es' (hk.mono hl) (hv.mono hl) ih
theorem OR.mono {ρ ρ' : Rho} (hl : Le ρ ρ') {p : Pl} {x : IObj} {o : Obj} (h : OR P ρ γ p x o) : OR P ρ' γ p x o := by
  cases h with
  | cells c len elem fz str arr fr h1 ha hc hf hs ht hz => exact .cells c len elem fz str arr fr h1 ha (fun j hj => let ⟨v', h1, h2⟩ := hc j hj; ⟨v', h1, h2.mono hl⟩) hf hs ht hz
  | map es cl l h => exact .map es cl l (h.mono hl)
  | siter rest pos s h hc hp h0 => exact .siter rest pos s h hc hp h0

def Dead : IObj → Prop
  | .dead => True
  | _ => False

theorem get_put (s : St) (b : Nat) (o : IObj) (j : Nat) : (s.put b o).get j = if j = b then o else s.get j := PT.get_set _ _ _ _ _
theorem get_new (s : St) (o : IObj) (j : Nat) : (s.new o).get j = if j = s.next then o else s.get j := PT.get_set _ _ _ _ _
theorem next_put (s : St) (b : Nat) (o : IObj) : (s.put b o).next = s.next := rfl
theorem next_new (s : St) (o : IObj) : (s.new o).next = s.next + 1 := rfl

/-- What an ideal state stands for. -/
structure Rel (P : Program) (γ : Gam) (ρ : Rho) (s : St) (w : World) : Prop where
  live : ∀ b p, ρ b = some p → ¬ Dead (s.get b) → ∃ o, w.heap[p.blk]? = some o ∧ OR P ρ γ p (s.get b) o
  bound : ∀ b p, ρ b = some p → b < s.next ∧ p.blk < w.heap.size
  fresh : ∀ b, s.next ≤ b → s.get b = .dead
  apart : ∀ b b' p p', ρ b = some p → ρ b' = some p' → ¬ Dead (s.get b) → ¬ Dead (s.get b') → b ≠ b' → p.blk ≠ p'.blk

/-- What a piece of a run leaves as it was. -/
structure Goes (ρ : Rho) (s : St) (w : World) (ρ' : Rho) (s' : St) (w' : World) : Prop where
  le : Le ρ ρ'
  unborn : ∀ b, b < s.next → ρ b = none → ρ' b = none ∧ s'.get b = s.get b
  next : s.next ≤ s'.next
  others : ∀ x, x < w.heap.size → (∀ b p, ρ b = some p → ¬ Dead (s.get b) → p.blk ≠ x) → w'.heap[x]? = w.heap[x]?
  born : ∀ b p, ρ' b = some p → ¬ Dead (s'.get b) → p.blk < w.heap.size → ∃ b₀ p₀, ρ b₀ = some p₀ ∧ ¬ Dead (s.get b₀) ∧ p₀.blk = p.blk
  size : w.heap.size ≤ w'.heap.size
  os : w'.os = w.os
  tape : w'.tape = w.tape
  output : w'.output = w.output

theorem Goes.refl (ρ : Rho) (s : St) (w : World) : Goes ρ s w ρ s w :=
  ⟨Le.refl ρ, fun _ _ h => ⟨h, rfl⟩, Nat.le_refl _, fun _ _ _ => rfl, fun b p h hd _ => ⟨b, p, h, hd, rfl⟩, Nat.le_refl _, rfl, rfl, rfl⟩
theorem Goes.trans {ρ₁ ρ₂ ρ₃ : Rho} {s₁ s₂ s₃ : St} {w₁ w₂ w₃ : World} (h : Goes ρ₁ s₁ w₁ ρ₂ s₂ w₂) (k : Goes ρ₂ s₂ w₂ ρ₃ s₃ w₃) : Goes ρ₁ s₁ w₁ ρ₃ s₃ w₃ where
  le := h.le.trans k.le
  unborn b hb hn := by
    obtain ⟨h1, h2⟩ := h.unborn b hb hn
    obtain ⟨k1, k2⟩ := k.unborn b (Nat.lt_of_lt_of_le hb h.next) h1
    exact ⟨k1, k2.trans h2⟩
  next := Nat.le_trans h.next k.next
  others x hx hn := by
    have h1 := h.others x hx hn
    rw [← h1]
    refine k.others x (Nat.lt_of_lt_of_le hx h.size) fun b p hb hd he => ?_
    subst he
    obtain ⟨b₀, p₀, hb₀, hd₀, hp₀⟩ := h.born b p hb hd hx
    exact hn b₀ p₀ hb₀ hd₀ hp₀
  born b p hb hd hx := by
    obtain ⟨b₁, p₁, hb₁, hd₁, hp₁⟩ := k.born b p hb hd (Nat.lt_of_lt_of_le hx h.size)
    obtain ⟨b₀, p₀, hb₀, hd₀, hp₀⟩ := h.born b₁ p₁ hb₁ hd₁ (hp₁ ▸ hx)
    exact ⟨b₀, p₀, hb₀, hd₀, hp₀.trans hp₁⟩
  size := Nat.le_trans h.size k.size
  os := k.os.trans h.os
  tape := k.tape.trans h.tape
  output := k.output.trans h.output

/-- One more draw. -/
def drawn (w : World) : World := { w with drawn := w.drawn + 1 }
theorem Rel.drawn {ρ : Rho} {s : St} {w : World} (h : Rel P γ ρ s w) : Rel P γ ρ s (drawn w) := ⟨h.live, h.bound, h.fresh, h.apart⟩
theorem Goes.drawn (ρ : Rho) (s : St) (w : World) : Goes ρ s w ρ s (drawn w) :=
  ⟨Le.refl ρ, fun _ _ h => ⟨h, rfl⟩, Nat.le_refl _, fun _ _ _ => rfl, fun b p h hd _ => ⟨b, p, h, hd, rfl⟩, Nat.le_refl _, rfl, rfl, rfl⟩

/-- A row that lives is written. -/
theorem Rel.put {ρ : Rho} {s : St} {w : World} (h : Rel P γ ρ s w) {b : Nat} {p : Pl} (hb : ρ b = some p) (hl : ¬ Dead (s.get b)) {x : IObj} {o : Obj} (ho : OR P ρ γ p x o) :
    Rel P γ ρ (s.put b x) (setRow w p.blk o) ∧ Goes ρ s w ρ (s.put b x) (setRow w p.blk o) := by
  obtain ⟨hbn, hbs⟩ := h.bound b p hb
  refine ⟨⟨?_, ?_, ?_, ?_⟩, ?_⟩
  · intro b' p' hb' hd
    rw [get_put] at hd ⊢
    by_cases e : b' = b
    · subst e
      rw [if_pos rfl]
      have : p' = p := by rw [hb] at hb'; exact (Option.some.inj hb').symm
      subst this
      exact ⟨o, setRow_get hbs, ho⟩
    · rw [if_neg e] at hd ⊢
      obtain ⟨o', h1, h2⟩ := h.live b' p' hb' hd
      exact ⟨o', by rw [setRow_other (h.apart b' b p' p hb' hb hd hl e)]; exact h1, h2⟩
  · intro b' p' hb'
    have := h.bound b' p' hb'
    exact ⟨this.1, by rw [setRow_size]; exact this.2⟩
  · intro b' hb'
    rw [get_put, if_neg (by have : s.next ≤ b' := hb'; omega)]
    exact h.fresh b' hb'
  · intro b1 b2 p1 p2 h1 h2 d1 d2 hne
    rw [get_put] at d1 d2
    refine h.apart b1 b2 p1 p2 h1 h2 ?_ ?_ hne
    · by_cases e : b1 = b
      · subst e; exact hl
      · rw [if_neg e] at d1; exact d1
    · by_cases e : b2 = b
      · subst e; exact hl
      · rw [if_neg e] at d2; exact d2
  · refine ⟨Le.refl ρ, ?_, Nat.le_refl _, ?_, ?_, by rw [setRow_size]; exact Nat.le_refl _, rfl, rfl, rfl⟩
    · intro b' hb' hn
      refine ⟨hn, ?_⟩
      rw [get_put, if_neg]
      intro e; subst e; rw [hb] at hn; cases hn
    · intro x hx hn
      exact setRow_other (fun e => hn b p hb hl e.symm)
    · intro b' q hb' hd _
      refine ⟨b', q, hb', ?_, rfl⟩
      by_cases e : b' = b
      · subst e; exact hl
      · rw [get_put, if_neg e] at hd; exact hd

def Rho.with (ρ : Rho) (b : Nat) (p : Pl) : Rho := fun x => if x = b then some p else ρ x
theorem Rho.with_self (ρ : Rho) (b : Nat) (p : Pl) : ρ.with b p b = some p := if_pos rfl
theorem Rho.with_other (ρ : Rho) {b x : Nat} (p : Pl) (h : x ≠ b) : ρ.with b p x = ρ x := if_neg h
theorem Rel.le_with {ρ : Rho} {s : St} {w : World} (h : Rel P γ ρ s w) (p : Pl) : Le ρ (ρ.with s.next p) := by
  intro b q hb
  have := (h.bound b q hb).1
  rw [Rho.with_other ρ p (by omega)]; exact hb

def pushed (w : World) (o : Obj) : World := { w with heap := w.heap.push o }
theorem pushed_self (w : World) (o : Obj) : (pushed w o).heap[w.heap.size]? = some o := by simp only [pushed]; exact Array.getElem?_push_size
theorem pushed_other {w : World} {o : Obj} {x : Nat} (h : x < w.heap.size) : (pushed w o).heap[x]? = w.heap[x]? := by
  simp only [pushed]; rw [Array.getElem?_push, if_neg (by omega)]
theorem pushed_size (w : World) (o : Obj) : (pushed w o).heap.size = w.heap.size + 1 := by simp [pushed]

/-- A new row, in a new block. -/
theorem Rel.new {ρ : Rho} {s : St} {w : World} (h : Rel P γ ρ s w) {p : Pl} (hp : p.blk = w.heap.size) {x : IObj} {o : Obj} (ho : OR P (ρ.with s.next p) γ p x o) :
    Rel P γ (ρ.with s.next p) (s.new x) (pushed w o) ∧ Goes ρ s w (ρ.with s.next p) (s.new x) (pushed w o) := by
  have hle := h.le_with p
  refine ⟨⟨?_, ?_, ?_, ?_⟩, ?_⟩
  · intro b q hb hd
    rw [get_new] at hd ⊢
    by_cases e : b = s.next
    · subst e
      rw [Rho.with_self] at hb
      cases hb
      rw [if_pos rfl]
      exact ⟨o, by rw [hp]; exact pushed_self w o, ho⟩
    · rw [Rho.with_other _ _ e] at hb
      rw [if_neg e] at hd ⊢
      obtain ⟨o', h1, h2⟩ := h.live b q hb hd
      exact ⟨o', by rw [pushed_other (h.bound b q hb).2]; exact h1, h2.mono hle⟩
  · intro b q hb
    rw [pushed_size, next_new]
    by_cases e : b = s.next
    · subst e; rw [Rho.with_self] at hb; cases hb; omega
    · rw [Rho.with_other _ _ e] at hb
      have := h.bound b q hb
      omega
  · intro b hb
    rw [next_new] at hb
    rw [get_new, if_neg (by omega)]
    exact h.fresh b (by omega)
  · intro b1 b2 p1 p2 h1 h2 d1 d2 hne
    rw [get_new] at d1 d2
    by_cases e1 : b1 = s.next
    · subst e1
      have e2 : b2 ≠ s.next := fun e => hne e.symm
      rw [Rho.with_self] at h1; cases h1
      rw [Rho.with_other _ _ e2] at h2
      have := (h.bound b2 p2 h2).2
      omega
    · rw [Rho.with_other _ _ e1] at h1
      rw [if_neg e1] at d1
      by_cases e2 : b2 = s.next
      · subst e2
        rw [Rho.with_self] at h2; cases h2
        have := (h.bound b1 p1 h1).2
        omega
      · rw [Rho.with_other _ _ e2] at h2
        rw [if_neg e2] at d2
        exact h.apart b1 b2 p1 p2 h1 h2 d1 d2 hne
  · refine ⟨hle, ?_, by rw [next_new]; omega, fun x hx _ => pushed_other hx, ?_, by rw [pushed_size]; omega, rfl, rfl, rfl⟩
    · intro b hb hn
      rw [Rho.with_other _ _ (by omega), get_new, if_neg (by omega)]
      exact ⟨hn, rfl⟩
    · intro b q hb hd hx
      by_cases e : b = s.next
      · subst e; rw [Rho.with_self] at hb; cases hb; omega
      · rw [Rho.with_other _ _ e] at hb; rw [get_new, if_neg e] at hd; exact ⟨b, q, hb, hd, rfl⟩

/-- A row dies. -/
theorem Rel.kill {ρ : Rho} {s : St} {w : World} (h : Rel P γ ρ s w) {b : Nat} {p : Pl} (hb : ρ b = some p) :
    Rel P γ ρ (s.put b .dead) w ∧ Goes ρ s w ρ (s.put b .dead) w := by
  refine ⟨⟨?_, h.bound, ?_, ?_⟩, ⟨Le.refl ρ, ?_, Nat.le_refl _, fun _ _ _ => rfl, ?_, Nat.le_refl _, rfl, rfl, rfl⟩⟩
  · intro b' q hb' hd
    rw [get_put] at hd ⊢
    by_cases e : b' = b
    · rw [if_pos e] at hd; exact absurd trivial hd
    · rw [if_neg e] at hd ⊢; exact h.live b' q hb' hd
  · intro b' hb'
    rw [get_put]
    split
    · rfl
    · exact h.fresh b' hb'
  · intro b1 b2 p1 p2 h1 h2 d1 d2 hne
    rw [get_put] at d1 d2
    by_cases e1 : b1 = b
    · rw [if_pos e1] at d1; exact absurd trivial d1
    · by_cases e2 : b2 = b
      · rw [if_pos e2] at d2; exact absurd trivial d2
      · rw [if_neg e1] at d1; rw [if_neg e2] at d2; exact h.apart b1 b2 p1 p2 h1 h2 d1 d2 hne
  · intro b' hb' hn
    refine ⟨hn, ?_⟩
    rw [get_put, if_neg]
    intro e; subst e; rw [hb] at hn; cases hn
  · intro b' q hb' hd _
    rw [get_put] at hd
    by_cases e : b' = b
    · rw [if_pos e] at hd; exact absurd trivial hd
    · rw [if_neg e] at hd; exact ⟨b', q, hb', hd, rfl⟩

/-- A row dies, and another one lies in its block. -/
theorem Rel.over {ρ : Rho} {s : St} {w : World} (h : Rel P γ ρ s w) {b : Nat} {p q : Pl} (hb : ρ b = some p) (hl : ¬ Dead (s.get b)) (hq : q.blk = p.blk) {x : IObj} {o : Obj}
    (ho : OR P (ρ.with s.next q) γ q x o) :
    Rel P γ (ρ.with s.next q) ((s.put b .dead).new x) (setRow w p.blk o) ∧ Goes ρ s w (ρ.with s.next q) ((s.put b .dead).new x) (setRow w p.blk o) := by
  have hle := h.le_with q
  obtain ⟨hbn, hbs⟩ := h.bound b p hb
  have hg : ∀ j, ((s.put b .dead).new x).get j = if j = s.next then x else if j = b then .dead else s.get j := fun j => by rw [get_new, get_put, next_put]
  have hn : ((s.put b .dead).new x).next = s.next + 1 := rfl
  refine ⟨⟨?_, ?_, ?_, ?_⟩, ?_⟩
  · intro b' q' hb' hd
    rw [hg] at hd ⊢
    by_cases e : b' = s.next
    · subst e
      rw [Rho.with_self] at hb'; cases hb'
      rw [if_pos rfl]
      exact ⟨o, by rw [hq]; exact setRow_get hbs, ho⟩
    · rw [Rho.with_other _ _ e] at hb'
      rw [if_neg e] at hd ⊢
      by_cases e2 : b' = b
      · rw [if_pos e2] at hd; exact absurd trivial hd
      · rw [if_neg e2] at hd ⊢
        obtain ⟨o', h1, h2⟩ := h.live b' q' hb' hd
        exact ⟨o', by rw [setRow_other (h.apart b' b q' p hb' hb hd hl e2)]; exact h1, h2.mono hle⟩
  · intro b' q' hb'
    rw [setRow_size, hn]
    by_cases e : b' = s.next
    · subst e; rw [Rho.with_self] at hb'; cases hb'; rw [hq]; omega
    · rw [Rho.with_other _ _ e] at hb'
      have := h.bound b' q' hb'
      omega
  · intro b' hb'
    rw [hn] at hb'
    rw [hg, if_neg (by omega), if_neg (by omega)]
    exact h.fresh b' (by omega)
  · intro b1 b2 p1 p2 h1 h2 d1 d2 hne
    rw [hg] at d1 d2
    by_cases e1 : b1 = s.next
    · subst e1
      have e2 : b2 ≠ s.next := fun e => hne e.symm
      rw [Rho.with_self] at h1; cases h1
      rw [Rho.with_other _ _ e2] at h2
      rw [if_neg e2] at d2
      by_cases e3 : b2 = b
      · rw [if_pos e3] at d2; exact absurd trivial d2
      · rw [if_neg e3] at d2
        rw [hq]
        exact fun e => h.apart b2 b p2 p h2 hb d2 hl e3 e.symm
    · rw [Rho.with_other _ _ e1] at h1
      rw [if_neg e1] at d1
      by_cases e3 : b1 = b
      · rw [if_pos e3] at d1; exact absurd trivial d1
      · rw [if_neg e3] at d1
        by_cases e2 : b2 = s.next
        · subst e2
          rw [Rho.with_self] at h2; cases h2
          rw [hq]
          exact h.apart b1 b p1 p h1 hb d1 hl e3
        · rw [Rho.with_other _ _ e2] at h2
          rw [if_neg e2] at d2
          by_cases e4 : b2 = b
          · rw [if_pos e4] at d2; exact absurd trivial d2
          · rw [if_neg e4] at d2
            exact h.apart b1 b2 p1 p2 h1 h2 d1 d2 hne
  · refine ⟨hle, ?_, by rw [hn]; omega, ?_, ?_, by rw [setRow_size]; exact Nat.le_refl _, rfl, rfl, rfl⟩
    · intro b' hb' hno
      rw [Rho.with_other _ _ (by omega), hg, if_neg (by omega), if_neg]
      · exact ⟨hno, rfl⟩
      · intro e; subst e; rw [hb] at hno; cases hno
    · intro y hy hno
      exact setRow_other (fun e => hno b p hb hl e.symm)
    · intro b' q' hb' hd hx
      by_cases e : b' = s.next
      · subst e; rw [Rho.with_self] at hb'; cases hb'; exact ⟨b, p, hb, hl, hq.symm⟩
      · rw [Rho.with_other _ _ e] at hb'
        rw [hg, if_neg e] at hd
        by_cases e2 : b' = b
        · rw [if_pos e2] at hd; exact absurd trivial hd
        · rw [if_neg e2] at hd; exact ⟨b', q', hb', hd, rfl⟩
end Go.Eng

set_option linter.constructorNameAsVariable false
set_option linter.unusedVariables false
namespace Go.Eng
variable {P : Program} {γ : Gam}

/-- An operation of the model answers what the ideal one does. -/
def Yields (P : Program) (γ : Gam) (ρ : Rho) (s : St) (w : World) (m : Sem Value) (v : IV) (s' : St) : Prop :=
  ∃ v' w' ρ', m.run P w = .ok v' w' ∧ Goes ρ s w ρ' s' w' ∧ Rel P γ ρ' s' w' ∧ VR ρ' γ v v'
theorem Yields.same {ρ : Rho} {s : St} {w : World} {m : Sem Value} {v : IV} {v' : Value} (h : Rel P γ ρ s w) (hr : m.run P w = .ok v' w) (hv : VR ρ γ v v') : Yields P γ ρ s w m v s :=
  ⟨v', w, ρ, hr, Goes.refl ρ s w, h, hv⟩

theorem one_of {ρ : Rho} {v : IV} {v' : Value} (h : VR ρ γ v v') (ho : v.one = true) : v'.oneCell' = true := by
  cases h <;> first
    | rfl
    | assumption
    | (simp [IV.one] at ho)
theorem ones_of {ρ : Rho} {l : List IV} {l' : List Value} (h : VRs ρ γ l l') (ho : allB IV.one l = true) : ∀ v ∈ l', v.oneCell' = true := by
  rw [allB_iff] at ho
  induction l generalizing l' with
  | nil => cases h; simp
  | cons x l ih =>
    cases h with
    | cons v v' _ l'' h hs =>
      intro u hu
      cases hu with
      | head => exact one_of h (ho _ (by simp))
      | tail _ hm => exact ih hs (fun y hy => ho y (by simp [hy])) u hm

theorem VRs.of_get {ρ : Rho} : ∀ {l : List IV} {l' : List Value}, l.length = l'.length → (∀ (k : Nat) (v : IV), l[k]? = some v → ∃ v', l'[k]? = some v' ∧ VR ρ γ v v') → VRs ρ γ l l'
  | [], [], _, _ => .nil
  | x :: l, y :: l', hl, h => by
    obtain ⟨v', h1, h2⟩ := h 0 x rfl
    simp at h1; subst h1
    exact .cons _ _ _ _ h2 (VRs.of_get (by simpa using hl) fun k v hk => by simpa using h (k + 1) v (by simpa using hk))
  | [], y :: l', hl, _ => by simp at hl
  | x :: l, [], hl, _ => by simp at hl

theorem VRs.get {ρ : Rho} : ∀ {l : List IV} {l' : List Value}, VRs ρ γ l l' → ∀ {k : Nat} {v : IV}, l[k]? = some v → ∃ v', l'[k]? = some v' ∧ VR ρ γ v v'
  | _, _, .nil, k, v, h => by simp at h
  | _, _, .cons a a' l l' h hs, k, v, hk => by
    cases k with
    | zero => simp at hk; subst hk; exact ⟨a', rfl, h⟩
    | succ k => simp at hk; simpa using VRs.get hs hk

/-- A row that lives. -/
theorem Rel.row {ρ : Rho} {s : St} {w : World} (h : Rel P γ ρ s w) {b : Nat} {p : Pl} (hb : ρ b = some p) {c : PT IV} {len e fz str : Nat} (hg : s.get b = .cells c len e fz str) :
    ∃ arr fr, w.heap[p.blk]? = some (.cells arr e fr) ∧ OR P ρ γ p (.cells c len e fz str) (.cells arr e fr) := by
  obtain ⟨o, h1, h2⟩ := h.live b p hb (by rw [hg]; exact fun h => h)
  rw [hg] at h2
  cases h2 with
  | cells c len elem fz str arr fr hl ha hc hf hs ht hz => exact ⟨arr, fr, h1, .cells c len e fz str arr fr hl ha hc hf hs ht hz⟩

theorem rd_some {s : St} {b o n : Nat} {l : List IV} (h : s.rd b o n = some l) : ∃ c len e fz str, s.get b = .cells c len e fz str ∧ o + n ≤ len ∧ l = rdC c n o := by
  unfold St.rd rdIn at h
  cases hg : s.get b with
  | cells c len e fz str =>
    rw [hg] at h
    change Bool.rec (motive := fun _ => Option (List IV)) none (some (rdC c n o)) (Nat.ble (o + n) len) = some l at h
    cases hb : Nat.ble (o + n) len with
    | false => rw [hb] at h; cases h
    | true => rw [hb] at h; exact ⟨c, len, e, fz, str, rfl, Nat.le_of_ble_eq_true hb, (Option.some.inj h).symm⟩
  | map es cl => rw [hg] at h; cases h
  | siter r p => rw [hg] at h; cases h
  | dead => rw [hg] at h; cases h

theorem Rel.rd {ρ : Rho} {s : St} {w : World} (h : Rel P γ ρ s w) {b : Nat} {p : Pl} (hb : ρ b = some p) {o n : Nat} {l : List IV} (hr : s.rd b o n = some l) :
    ∃ arr e fr, w.heap[p.blk]? = some (.cells arr e fr) ∧ p.shift + o + n ≤ arr.size ∧ VRs ρ γ l (arr.extract (p.shift + o) (p.shift + o + n)).toList := by
  obtain ⟨c, len, e, fz, str, hg, hl, rfl⟩ := rd_some hr
  obtain ⟨arr, fr, h1, h2⟩ := h.row hb hg
  cases h2 with
  | cells _ _ _ _ _ _ _ hl' ha hc hf hs htg hz =>
    refine ⟨arr, e, fr, h1, by omega, VRs.of_get ?_ ?_⟩
    · rw [length_rdC]; simp; omega
    · intro k v hk
      have hkn : k < n := by
        have := (List.getElem?_eq_some_iff.1 hk).1
        rwa [length_rdC] at this
      rw [get_rdC c n o k hkn] at hk
      cases hk
      obtain ⟨v', hv1, hv2⟩ := hc (o + k) (by omega)
      refine ⟨v', ?_, hv2⟩
      simp only [Array.toList_extract, List.extract_eq_take_drop]
      rw [List.getElem?_take_of_lt (by omega), List.getElem?_drop]
      rw [← hv1]
      simp [Nat.add_assoc]

theorem wr_ok {s s' : St} {b o : Nat} {vs : List IV} (h : s.wr b o vs = .ok s') : ∃ c len e fz str, s.get b = .cells c len e fz str ∧ fz ≤ o ∧ o + vs.length ≤ len ∧ allB IV.one vs = true ∧ s' = s.put b (.cells (wrC vs c o) len e fz str) := by
  unfold St.wr wrIn at h
  cases hg : s.get b with
  | cells c len e fz str =>
    rw [hg] at h
    change Bool.rec (motive := fun _ => RS) .no (Bool.rec (motive := fun _ => RS) .no (Bool.rec (motive := fun _ => RS) .no (.ok (s.put b (.cells (wrC vs c o) len e fz str))) (allB IV.one vs)) (Nat.ble (o + vs.length) len)) (Nat.ble fz o) = .ok s' at h
    cases h1 : Nat.ble fz o with
    | false => rw [h1] at h; cases h
    | true =>
      rw [h1] at h
      cases h2 : Nat.ble (o + vs.length) len with
      | false => rw [h2] at h; cases h
      | true =>
        rw [h2] at h
        cases h3 : allB IV.one vs with
        | false => rw [h3] at h; cases h
        | true => rw [h3] at h; cases h; exact ⟨c, len, e, fz, str, rfl, Nat.le_of_ble_eq_true h1, Nat.le_of_ble_eq_true h2, rfl, rfl⟩
  | map es cl => rw [hg] at h; cases h
  | siter r p => rw [hg] at h; cases h
  | dead => rw [hg] at h; cases h

theorem Rel.wr {ρ : Rho} {s s' : St} {w : World} (h : Rel P γ ρ s w) {b : Nat} {p : Pl} (hb : ρ b = some p) {o : Nat} {vs : List IV} {vs' : List Value} (hv : VRs ρ γ vs vs') (hr : s.wr b o vs = .ok s') :
    ∃ w', (storeCells ⟨p.blk, p.shift + o, none⟩ vs').run P w = .ok () w' ∧ Goes ρ s w ρ s' w' ∧ Rel P γ ρ s' w' := by
  obtain ⟨c, len, e, fz, str, hg, hfz, hlen, hone, rfl⟩ := wr_ok hr
  obtain ⟨arr, fr, h1, h2⟩ := h.row hb hg
  have hll := hv.length
  cases h2 with
  | cells _ _ _ _ _ _ _ hl' ha hc hf hs htg hz =>
    have hrun := run_storeCells (P := P) vs' w p.blk (p.shift + o) 0 arr e fr h1 (by omega) (ones_of hv hone) (fun j hj hj' => hf j (by omega) (by omega))
    have hput := h.put (x := .cells (wrC vs c o) len e fz str) (o := .cells (wrArr arr (p.shift + o) vs') e fr) hb (by rw [hg]; exact fun h => h) (by
      refine .cells _ _ _ _ _ _ _ hl' (by rw [size_wrArr]; exact ha) ?_ hf hs htg hz
      intro j hj
      rw [get_wrC]
      by_cases hin : o ≤ j ∧ j < o + vs.length
      · rw [dif_pos hin, get_wrArr _ _ _ _ (by omega), if_pos (by omega)]
        have hk : vs[j - o]? = some (vs[j - o]'(by omega)) := List.getElem?_eq_getElem (by omega)
        obtain ⟨v', hv1, hv2⟩ := hv.get hk
        exact ⟨v', by rw [show p.shift + j - (p.shift + o) = j - o by omega]; exact hv1, hv2⟩
      · rw [dif_neg hin, get_wrArr _ _ _ _ (by omega), if_neg (by omega)]
        exact hc j hj)
    exact ⟨_, by simpa using hrun, hput.2, hput.1⟩

/-- A new row. -/
theorem Rel.row_new {ρ : Rho} {s : St} {w : World} (h : Rel P γ ρ s w) {l : List IV} {l' : List Value} {e n str : Nat} (hv : VRs ρ γ l l') (hz : size P e = some n) (rest : List Value) :
    ∃ p, p.blk = w.heap.size ∧ p.shift = 0 ∧ p.lim = l'.length + rest.length ∧ p.sz = n ∧ Rel P γ (ρ.with s.next p) (s.new (rowOf l e str)) (pushed w (.cells (l' ++ rest).toArray e)) ∧
      Goes ρ s w (ρ.with s.next p) (s.new (rowOf l e str)) (pushed w (.cells (l' ++ rest).toArray e)) ∧ Le ρ (ρ.with s.next p) ∧ ρ.with s.next p s.next = some p := by
  have hll := hv.length
  refine ⟨⟨w.heap.size, 0, l'.length + rest.length, n⟩, rfl, rfl, rfl, rfl, ?_⟩
  have hle := h.le_with ⟨w.heap.size, 0, l'.length + rest.length, n⟩
  obtain ⟨h1, h2⟩ := h.new (p := ⟨w.heap.size, 0, l'.length + rest.length, n⟩) rfl (x := rowOf l e str) (o := .cells (l' ++ rest).toArray e) (by
    refine .cells _ _ _ _ _ _ _ (by simp; omega) (by simp) ?_ (by intro j _ _ hj; simp at hj) (fun _ => ⟨.inl rfl, fun _ => rfl⟩) (fun _ => rfl) hz
    intro j hj
    rw [get_wrC, dif_pos (by omega)]
    have hk : l[j - 0]? = some (l[j - 0]'(by omega)) := List.getElem?_eq_getElem (by omega)
    obtain ⟨v', hv1, hv2⟩ := hv.get hk
    refine ⟨v', ?_, hv2.mono hle⟩
    simp only [Nat.sub_zero] at hv1
    simp only [Nat.zero_add, List.getElem?_toArray]
    rw [List.getElem?_append_left (by omega)]
    exact hv1)
  exact ⟨h1, h2, hle, Rho.with_self _ _ _⟩

/- operations on memory -/
theorem load1_sim {ρ : Rho} {s s' : St} {w : World} {t : Nat} {a v : IV} {a' : Value} (h : Rel P γ ρ s w) (ha : VR ρ γ a a') (ht : aggT P t = some false) (hr : load1 a s = .ok v s') :
    Yields P γ ρ s w (Instr.loadAt t a') v s' := by
  cases ha <;> (try (simp [load1, IV.onPtr] at hr; done))
  rename_i b o p hb
  change R.val s (cellOf o (s.get b)) = .ok v s' at hr
  cases hg : s.get b with
  | cells c len e fz str =>
    rw [hg] at hr
    change R.val s (Bool.rec (motive := fun _ => Option IV) none (some (PT.get undefI c o)) (Nat.ble (o + 1) len)) = .ok v s' at hr
    cases hbl : Nat.ble (o + 1) len with
    | false => rw [hbl] at hr; cases hr
    | true =>
      rw [hbl] at hr
      cases hr
      have hlen := Nat.le_of_ble_eq_true hbl
      obtain ⟨arr, fr, h1, h2⟩ := h.row hb hg
      cases h2 with
      | cells _ _ _ _ _ _ _ hl' ha hc hf hs htg hz =>
        obtain ⟨v', hv1, hv2⟩ := hc o (by omega)
        refine Yields.same h ?_ hv2
        unfold Instr.loadAt Instr.sureAddr loadVar
        simp only [Sem.run_bind, Sem.run_pure, Result.andThen_ok, run_isAgg ht, Bool.false_eq_true, if_false, run_load, cell_eq h1, hv1]
  | map es cl => rw [hg] at hr; cases hr
  | siter r p => rw [hg] at hr; cases hr
  | dead => rw [hg] at hr; cases hr

theorem loadA_sim {ρ : Rho} {s s' : St} {w : World} {t n : Nat} {a v : IV} {a' : Value} (h : Rel P γ ρ s w) (ha : VR ρ γ a a') (ht : aggT P t = some true) (hn : size P t = some n) (hr : loadA n a s = .ok v s') :
    Yields P γ ρ s w (Instr.loadAt t a') v s' := by
  cases ha <;> (try (simp [loadA] at hr; done))
  rename_i b o p hb
  simp only [loadA, valAgg] at hr
  cases hg : s.rd b o n with
  | none => rw [hg] at hr; cases hr
  | some l =>
    rw [hg] at hr
    cases hr
    obtain ⟨arr, e, fr, h1, h2, h3⟩ := h.rd hb hg
    refine Yields.same h ?_ (.agg l _ h3)
    unfold Instr.loadAt Instr.sureAddr loadVar
    simp only [Sem.run_bind, Sem.run_pure, Result.andThen_ok, run_isAgg ht, if_true, run_sizeOf hn, run_loadCells h1 h2]

theorem store_sim {ρ : Rho} {s s' : St} {w : World} {t n : Nat} {a v x : IV} {a' v' : Value} (h : Rel P γ ρ s w) (ha : VR ρ γ a a') (hv : VR ρ γ v v') (hn : size P t = some n) (hr : storeV n a v s = .ok x s') :
    x = undefI ∧ ∃ w', (Instr.storeAt t a' v').run P w = .ok () w' ∧ Goes ρ s w ρ s' w' ∧ Rel P γ ρ s' w' := by
  cases ha <;> (try (simp [storeV, IV.onPtr] at hr; done))
  rename_i b o p hb
  change Bool.rec (motive := fun _ => R) .no (s.wr b o v.cells).unit (Nat.beq v.cells.length n) = .ok x s' at hr
  cases hbl : Nat.beq v.cells.length n with
  | false => rw [hbl] at hr; cases hr
  | true =>
    rw [hbl] at hr
    change (s.wr b o v.cells).unit = .ok x s' at hr
    have hlen := Nat.eq_of_beq_eq_true hbl
    cases hw : s.wr b o v.cells with
    | no => rw [hw] at hr; cases hr
    | ok s1 =>
      rw [hw] at hr
      cases hr
      obtain ⟨w', h1, h2, h3⟩ := h.wr hb hv.cells hw
      refine ⟨rfl, w', ?_, h2, h3⟩
      unfold Instr.storeAt Instr.sureAddr storeVar
      have hsz : v'.cells.size = n := by have := hv.cells.length; simp at this; omega
      simp only [Sem.run_bind, Sem.run_pure, Result.andThen_ok, run_sizeOf hn, hsz, ne_eq, not_true_eq_false, if_false]
      simpa using h1
end Go.Eng

set_option linter.constructorNameAsVariable false
set_option linter.unusedVariables false
set_option linter.unusedSimpArgs false
namespace Go.Eng
variable {P : Program} {γ : Gam}

/- numbers -/
theorem addI_eq (a b : Int) : addI a b = a + b := by cases a <;> cases b <;> rfl
theorem wrap64I_eq (x : Int) : wrap64I x = IntKind.i64.wrap x := by
  have key : ∀ x : Int, -9223372036854775808 ≤ x → x ≤ 9223372036854775807 → IntKind.i64.wrap x = x := by
    intro x h1 h2
    have e1 : (2 : Int) ^ IntKind.bits .i64 = 18446744073709551616 := by decide
    have e2 : (2 : Int) ^ (IntKind.bits .i64 - 1) = 9223372036854775808 := by decide
    simp only [IntKind.wrap, e1, e2]
    simp only [IntKind.signed, Bool.true_and, decide_eq_true_eq]
    split <;> omega
  cases x with
  | ofNat n =>
    show Bool.rec (motive := fun _ => Int) (IntKind.i64.wrap (.ofNat n)) (.ofNat n) (Nat.ble n top64) = _
    cases h : Nat.ble n top64 with
    | false => rfl
    | true =>
      have := Nat.le_of_ble_eq_true h
      unfold top64 at this
      exact (key (.ofNat n) (by have : (Int.ofNat n : Int) = (n : Int) := rfl; omega) (by have : (Int.ofNat n : Int) = (n : Int) := rfl; omega)).symm
  | negSucc n =>
    show Bool.rec (motive := fun _ => Int) (IntKind.i64.wrap (.negSucc n)) (.negSucc n) (Nat.ble n top64) = _
    cases h : Nat.ble n top64 with
    | false => rfl
    | true =>
      have := Nat.le_of_ble_eq_true h
      unfold top64 at this
      exact (key (.negSucc n) (by omega) (by omega)).symm
theorem wrapI_eq (k : IntKind) (x : Int) : wrapI k x = k.wrap x := by
  cases k <;> first
    | rfl
    | exact wrap64I_eq x
theorem eqI_eq (a b : Int) : eqI a b = (a == b) := by
  cases a with
  | ofNat m => cases b with
    | ofNat n =>
      show Nat.beq m n = _
      rw [Bool.eq_iff_iff]; simp; omega
    | negSucc n => show false = _; rw [Bool.eq_iff_iff]; simp
  | negSucc m => cases b with
    | ofNat n => show false = _; rw [Bool.eq_iff_iff]; simp
    | negSucc n =>
      show Nat.beq m n = _
      rw [Bool.eq_iff_iff]; simp
theorem ltI_eq (a b : Int) : ltI a b = decide (a < b) := by
  cases a with
  | ofNat m => cases b with
    | ofNat n =>
      show Nat.ble (m + 1) n = _
      rw [Bool.eq_iff_iff]; simp; omega
    | negSucc n => show false = _; rw [Bool.eq_iff_iff]; simp; omega
  | negSucc m => cases b with
    | ofNat n => show true = _; rw [Bool.eq_iff_iff]; simp; omega
    | negSucc n =>
      show Nat.ble (n + 1) m = _
      rw [Bool.eq_iff_iff]; simp; omega
theorem notB_eq (b : Bool) : notB b = !b := by cases b <;> rfl
theorem kindEq_iff (a b : IntKind) : kindEq a b = true ↔ a = b := by cases a <;> cases b <;> decide

theorem intDo_sim {op : BinOp} {k : IntKind} {a b : Int} {t : Nat} {v : IV} {w : World} {ρ : Rho} (h : intDo op k a b = some v) :
    ∃ v', (binOp op t (.int k a) (.int k b)).run P w = .ok v' w ∧ VR ρ γ v v' := by
  unfold intDo at h
  cases op <;> simp only [intOp] at h
  case add => cases h; exact ⟨.int k (k.wrap (a + b)), by simp only [binOp, Op.intArith, ne_eq, not_true_eq_false, if_false, Sem.run_pure], by rw [wrapI_eq, addI_eq]; exact .int _ _⟩
  case sub => cases h; exact ⟨.int k (k.wrap (a - b)), by simp only [binOp, Op.intArith, ne_eq, not_true_eq_false, if_false, Sem.run_pure], by rw [wrapI_eq]; exact .int _ _⟩
  case mul => cases h; exact ⟨.int k (k.wrap (a * b)), by simp only [binOp, Op.intArith, ne_eq, not_true_eq_false, if_false, Sem.run_pure], by rw [wrapI_eq]; exact .int _ _⟩
  case quo =>
    cases hb : eqI b 0 with
    | true => simp [hb] at h
    | false =>
      simp only [hb] at h; cases h
      have hb0 : b ≠ 0 := by rw [eqI_eq] at hb; simpa using hb
      exact ⟨.int k (k.wrap (a.tdiv b)), by simp only [binOp, Op.intDiv, ne_eq, not_true_eq_false, if_false, hb0, Sem.run_pure], by rw [wrapI_eq]; exact .int _ _⟩
  case rem =>
    cases hb : eqI b 0 with
    | true => simp [hb] at h
    | false =>
      simp only [hb] at h; cases h
      have hb0 : b ≠ 0 := by rw [eqI_eq] at hb; simpa using hb
      exact ⟨.int k (a.tmod b), by simp only [binOp, Op.intDiv, ne_eq, not_true_eq_false, if_false, hb0, Sem.run_pure], .int _ _⟩
  case and => cases h; exact ⟨.int k (k.wrap (bitsI k a &&& bitsI k b).toNat), by simp only [binOp, Op.intBits, ne_eq, not_true_eq_false, if_false, Sem.run_pure, bitsI], .int _ _⟩
  case or => cases h; exact ⟨.int k (k.wrap (bitsI k a ||| bitsI k b).toNat), by simp only [binOp, Op.intBits, ne_eq, not_true_eq_false, if_false, Sem.run_pure, bitsI], .int _ _⟩
  case xor => cases h; exact ⟨.int k (k.wrap (bitsI k a ^^^ bitsI k b).toNat), by simp only [binOp, Op.intBits, ne_eq, not_true_eq_false, if_false, Sem.run_pure, bitsI], .int _ _⟩
  case andNot => cases h; exact ⟨.int k (k.wrap (bitsI k a &&& ~~~ bitsI k b).toNat), by simp only [binOp, Op.intBits, ne_eq, not_true_eq_false, if_false, Sem.run_pure, bitsI], .int _ _⟩
  case shl =>
    cases hb : ltI b 0 with
    | true => simp [hb] at h
    | false =>
      simp only [hb] at h; cases h
      have hb0 : ¬ b < 0 := by rw [ltI_eq] at hb; simpa using hb
      exact ⟨.int k (k.wrap (a * 2 ^ shiftN k b)), by simp only [binOp, Op.shift, if_neg hb0, Sem.run_pure, shiftN], .int _ _⟩
  case shr =>
    cases hb : ltI b 0 with
    | true => simp [hb] at h
    | false =>
      simp only [hb] at h; cases h
      have hb0 : ¬ b < 0 := by rw [ltI_eq] at hb; simpa using hb
      exact ⟨.int k (a.fdiv (2 ^ shiftN k b)), by simp only [binOp, Op.shift, if_neg hb0, Sem.run_pure, shiftN], .int _ _⟩
  case eql => cases h; exact ⟨.bool (a == b), by simp only [binOp, Op.intCmp, ne_eq, not_true_eq_false, if_false, Sem.run_pure], by rw [eqI_eq]; exact .bool _⟩
  case neq => cases h; exact ⟨.bool (a != b), by simp only [binOp, Op.intCmp, ne_eq, not_true_eq_false, if_false, Sem.run_pure], by rw [notB_eq, eqI_eq]; exact .bool _⟩
  case lss => cases h; exact ⟨.bool (a < b), by simp only [binOp, Op.intCmp, ne_eq, not_true_eq_false, if_false, Sem.run_pure], by rw [ltI_eq]; exact .bool _⟩
  case leq => cases h; exact ⟨.bool (decide (a ≤ b)), by simp only [binOp, Op.intCmp, ne_eq, not_true_eq_false, if_false, Sem.run_pure], by
      rw [notB_eq, ltI_eq, show (!decide (b < a)) = decide (a ≤ b) by rw [Bool.eq_iff_iff]; simp]; exact .bool _⟩
  case gtr => cases h; exact ⟨.bool (decide (a > b)), by simp only [binOp, Op.intCmp, ne_eq, not_true_eq_false, if_false, Sem.run_pure], by rw [ltI_eq]; exact .bool _⟩
  case geq => cases h; exact ⟨.bool (decide (a ≥ b)), by simp only [binOp, Op.intCmp, ne_eq, not_true_eq_false, if_false, Sem.run_pure], by
      rw [notB_eq, ltI_eq, show (!decide (a < b)) = decide (a ≥ b) by rw [Bool.eq_iff_iff]; simp]; exact .bool _⟩

/- texts -/
theorem listEq_iff : ∀ (a b : List Nat), listEq a b = true ↔ a = b
  | [], [] => by simp [listEq]
  | [], _ :: _ => by simp [listEq]
  | _ :: _, [] => by simp [listEq]
  | a :: x, b :: y => by
    unfold listEq
    cases h : Nat.beq a b with
    | true => simp [Nat.eq_of_beq_eq_true h, listEq_iff x y]
    | false => simp; intro e; subst e; simp at h
def toNats (s : ByteArray) : List Nat := s.data.toList.map UInt8.toNat
theorem toNats_inj {a b : List UInt8} (h : a.map UInt8.toNat = b.map UInt8.toNat) : a = b := by
  induction a generalizing b with
  | nil => cases b with
    | nil => rfl
    | cons x y => simp at h
  | cons x l ih => cases b with
    | nil => simp at h
    | cons y m =>
      simp at h
      rw [ih h.2, UInt8.toNat_inj.1 h.1]
theorem toList_data (s : ByteArray) : s.toList = s.data.toList := ByteArray.toList_eq s
theorem listEq_bytes (x y : ByteArray) : listEq (x.data.toList.map UInt8.toNat) (y.data.toList.map UInt8.toNat) = (x.toList == y.toList) := by
  rw [Bool.eq_iff_iff, listEq_iff, toList_data, toList_data]
  simp only [beq_iff_eq]
  exact ⟨toNats_inj, fun h => by rw [h]⟩
theorem listLt_bytes : ∀ (x y : List UInt8), listLt (x.map UInt8.toNat) (y.map UInt8.toNat) = Op.bytesLess x y
  | _, [] => by cases ‹List UInt8› <;> simp [listLt, Op.bytesLess]
  | [], _ :: _ => by simp [listLt, Op.bytesLess]
  | a :: x, b :: y => by
    simp only [List.map_cons]
    unfold listLt Op.bytesLess
    rw [listLt_bytes x y]
    cases h : Nat.blt a.toNat b.toNat with
    | true =>
      have hlt : a < b := UInt8.lt_iff_toNat_lt.2 (by simpa [Nat.blt_eq] using h)
      simp [hlt]
    | false =>
      have hlt : ¬ a < b := by
        intro e
        have := UInt8.lt_iff_toNat_lt.1 e
        have h2 : Nat.blt a.toNat b.toNat = true := by simpa [Nat.blt_eq] using this
        rw [h2] at h; cases h
      simp only [hlt, decide_false, Bool.false_or]
      cases h2 : Nat.beq a.toNat b.toNat with
      | true =>
        have : a = b := UInt8.toNat_inj.1 (Nat.eq_of_beq_eq_true h2)
        simp [this]
      | false =>
        have : a ≠ b := by intro e; subst e; simp at h2
        simp [this]
theorem strOp_sim {op : BinOp} {a b : List Nat} {x y : ByteArray} {v : IV} {w : World} {ρ : Rho} (hx : x.data.toList.map UInt8.toNat = a) (hy : y.data.toList.map UInt8.toNat = b) (h : strOp op a b = some v) :
    ∃ v', (Op.stringOp op x y).run P w = .ok v' w ∧ VR ρ γ v v' := by
  subst hx hy
  cases op <;> simp only [strOp] at h <;> (try (cases h; done))
  case add =>
    cases hr : roomy (x.data.toList.map UInt8.toNat) (y.data.toList.map UInt8.toNat) with
    | false => simp [hr] at h
    | true =>
      simp only [hr] at h; cases h
      have hle : ¬ (((x.size + y.size : Nat) : Int) > IntKind.i64.max) := by
        have := Nat.le_of_ble_eq_true hr
        simp only [List.length_map, Array.length_toList, top64] at this
        have e1 : x.data.size = x.size := rfl
        have e2 : y.data.size = y.size := rfl
        rw [e1, e2] at this
        have e3 : IntKind.i64.max = 9223372036854775807 := by decide
        omega
      refine ⟨.string (x ++ y), by simp only [Op.stringOp, if_neg hle, Sem.run_pure], .str _ _ ?_⟩
      rw [ByteArray.data_append]
      simp
  case eql => cases h; exact ⟨.bool (x.toList == y.toList), by simp only [Op.stringOp, Sem.run_pure], by rw [listEq_bytes]; exact .bool _⟩
  case neq => cases h; exact ⟨.bool !(x.toList == y.toList), by simp only [Op.stringOp, Sem.run_pure], by rw [listEq_bytes]; exact .bool _⟩
  case lss => cases h; exact ⟨.bool (Op.bytesLess x.toList y.toList), by simp only [Op.stringOp, Sem.run_pure], by rw [listLt_bytes, ← toList_data, ← toList_data]; exact .bool _⟩
  case leq => cases h; exact ⟨.bool (Op.bytesLess x.toList y.toList || x.toList == y.toList), by simp only [Op.stringOp, Sem.run_pure], by rw [listEq_bytes, listLt_bytes, ← toList_data, ← toList_data]; exact .bool _⟩
  case gtr => cases h; exact ⟨.bool !(Op.bytesLess x.toList y.toList || x.toList == y.toList), by simp only [Op.stringOp, Sem.run_pure], by rw [listEq_bytes, listLt_bytes, ← toList_data, ← toList_data]; exact .bool _⟩
  case geq => cases h; exact ⟨.bool !(Op.bytesLess x.toList y.toList), by simp only [Op.stringOp, Sem.run_pure], by rw [listLt_bytes, ← toList_data, ← toList_data]; exact .bool _⟩
end Go.Eng
