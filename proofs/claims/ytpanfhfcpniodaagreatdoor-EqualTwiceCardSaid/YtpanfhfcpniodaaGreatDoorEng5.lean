/- A part of the proof: an interpreter of the program, shown right once, and the laws that it computes. -/
import Derived.Test.YtpanfhfcpniodaaGreatDoorEng4
set_option linter.constructorNameAsVariable false
set_option linter.unusedVariables false
namespace Go.Eng
variable {P : Program} {γ : Gam}

/-- Entries of a map. -/
inductive EntR (ρ : Rho) (γ : Gam) : List (IV × IV × Nat) → List MapEntry → Prop where
  | nil : EntR ρ γ [] []
  | cons (k v : IV) (e : MapEntry) (es : List (IV × IV × Nat)) (es' : List MapEntry) (hk : VR ρ γ k e.key) (hv : VR ρ γ v e.val) (h : EntR ρ γ es es') : EntR ρ γ ((k, v, e.born) :: es) (e :: es')

/-- What an ideal row stands for. -/
inductive OR (P : Program) (ρ : Rho) (γ : Gam) (p : Pl) : IObj → Obj → Prop where
  | cells (c : PT IV) (len elem fz tag : Nat) (arr : Array Value) (fr : Nat × Nat) (hl : p.shift + len ≤ p.lim) (ha : p.lim ≤ arr.size)
      (hc : ∀ j, j < len → ∃ v', arr[p.shift + j]? = some v' ∧ VR ρ γ (PT.get undefI c j) v')
      (hf : ∀ j, p.shift + fz ≤ j → j < p.lim → ¬ (fr.1 ≤ j ∧ j < fr.2))
      (hs : tag ≠ 1 → (fr.1 = fr.2 ∨ fr.2 ≤ p.shift + fz) ∧ (fz = 0 → fr.1 = fr.2)) (ht : tag = 0 → p.shift = 0) (hz : size P elem = some p.sz) : OR P ρ γ p (.cells c len elem fz tag) (.cells arr elem fr)
  | map (es : List (IV × IV × Nat)) (cl : Nat) (l : Array MapEntry) (h : EntR ρ γ es l.toList) : OR P ρ γ p (.map es cl) (.map l cl)
  | siter (rest : List Nat) (pos : Nat) (s : ByteArray) (h : (s.data.toList.map UInt8.toNat).drop pos = rest.map (den γ)) (hc : ∀ c ∈ rest, CodeOk γ c) (hp : pos ≤ s.size) (h0 : p.shift = 0) : OR P ρ γ p (.siter rest pos) (.stringIter s pos)

theorem EntR.mono {ρ ρ' : Rho} (hl : Le ρ ρ') {es : List (IV × IV × Nat)} {l : List MapEntry} (h : EntR ρ γ es l) : EntR ρ' γ es l := by
  induction h with
  | nil => exact .nil
  | cons k v e es es' hk hv h ih => exact .cons k v e es es' (hk.mono hl) (hv.mono hl) ih
theorem OR.mono {ρ ρ' : Rho} (hl : Le ρ ρ') {p : Pl} {x : IObj} {o : Obj} (h : OR P ρ γ p x o) : OR P ρ' γ p x o := by
  cases h with
  | cells c len elem fz str arr fr h1 ha hc hf hs ht hz => exact .cells c len elem fz str arr fr h1 ha (fun j hj => let ⟨v', h1, h2⟩ := hc j hj; ⟨v', h1, h2.mono hl⟩) hf hs ht hz
  | map es cl l h => exact .map es cl l (h.mono hl)
  | siter rest pos s h hc hp h0 => exact .siter rest pos s h hc hp h0

def Dead : IObj → Prop
  | .dead => True
  | _ => False

theorem get_put (s : St) (b : Nat) (o : IObj) (j : Nat) : (s.put b o).get j = if j = b then o else s.get j := PT.get_set _ _ _ _ _
theorem get_new (s : St) (o : IObj) (j : Nat) : (s.new o).get j = if j = s.next then o else s.get j := PT.get_set _ _ _ _ _
theorem next_put (s : St) (b : Nat) (o : IObj) : (s.put b o).next = s.next := rfl
theorem next_new (s : St) (o : IObj) : (s.new o).next = s.next + 1 := rfl

/-- What an ideal state stands for. -/
structure Rel (P : Program) (γ : Gam) (ρ : Rho) (s : St) (w : World) : Prop where
  live : ∀ b p, ρ b = some p → ¬ Dead (s.get b) → ∃ o, w.heap[p.blk]? = some o ∧ OR P ρ γ p (s.get b) o
  bound : ∀ b p, ρ b = some p → b < s.next ∧ p.blk < w.heap.size
  fresh : ∀ b, s.next ≤ b → s.get b = .dead
  apart : ∀ b b' p p', ρ b = some p → ρ b' = some p' → ¬ Dead (s.get b) → ¬ Dead (s.get b') → b ≠ b' → p.blk ≠ p'.blk

/-- What a piece of a run leaves as it was. -/
structure Goes (ρ : Rho) (s : St) (w : World) (ρ' : Rho) (s' : St) (w' : World) : Prop where
  le : Le ρ ρ'
  unborn : ∀ b, b < s.next → ρ b = none → ρ' b = none ∧ s'.get b = s.get b
  next : s.next ≤ s'.next
  others : ∀ x, x < w.heap.size → (∀ b p, ρ b = some p → ¬ Dead (s.get b) → p.blk ≠ x) → w'.heap[x]? = w.heap[x]?
  born : ∀ b p, ρ' b = some p → ¬ Dead (s'.get b) → p.blk < w.heap.size → ∃ b₀ p₀, ρ b₀ = some p₀ ∧ ¬ Dead (s.get b₀) ∧ p₀.blk = p.blk
  size : w.heap.size ≤ w'.heap.size
  os : w'.os = w.os
  tape : w'.tape = w.tape
  output : w'.output = w.output

theorem Goes.refl (ρ : Rho) (s : St) (w : World) : Goes ρ s w ρ s w :=
  ⟨Le.refl ρ, fun _ _ h => ⟨h, rfl⟩, Nat.le_refl _, fun _ _ _ => rfl, fun b p h hd _ => ⟨b, p, h, hd, rfl⟩, Nat.le_refl _, rfl, rfl, rfl⟩
theorem Goes.trans {ρ₁ ρ₂ ρ₃ : Rho} {s₁ s₂ s₃ : St} {w₁ w₂ w₃ : World} (h : Goes ρ₁ s₁ w₁ ρ₂ s₂ w₂) (k : Goes ρ₂ s₂ w₂ ρ₃ s₃ w₃) : Goes ρ₁ s₁ w₁ ρ₃ s₃ w₃ where
  le := h.le.trans k.le
  unborn b hb hn := by
    obtain ⟨h1, h2⟩ := h.unborn b hb hn
    obtain ⟨k1, k2⟩ := k.unborn b (Nat.lt_of_lt_of_le hb h.next) h1
    exact ⟨k1, k2.trans h2⟩
  next := Nat.le_trans h.next k.next
  others x hx hn := by
    have h1 := h.others x hx hn
    rw [← h1]
    refine k.others x (Nat.lt_of_lt_of_le hx h.size) fun b p hb hd he => ?_
    subst he
    obtain ⟨b₀, p₀, hb₀, hd₀, hp₀⟩ := h.born b p hb hd hx
    exact hn b₀ p₀ hb₀ hd₀ hp₀
  born b p hb hd hx := by
    obtain ⟨b₁, p₁, hb₁, hd₁, hp₁⟩ := k.born b p hb hd (Nat.lt_of_lt_of_le hx h.size)
    obtain ⟨b₀, p₀, hb₀, hd₀, hp₀⟩ := h.born b₁ p₁ hb₁ hd₁ (hp₁ ▸ hx)
    exact ⟨b₀, p₀, hb₀, hd₀, hp₀.trans hp₁⟩
  size := Nat.le_trans h.size k.size
  os := k.os.trans h.os
  tape := k.tape.trans h.tape
  output := k.output.trans h.output

/-- One more draw. -/
def drawn (w : World) : World := { w with drawn := w.drawn + 1 }
theorem Rel.drawn {ρ : Rho} {s : St} {w : World} (h : Rel P γ ρ s w) : Rel P γ ρ s (drawn w) := ⟨h.live, h.bound, h.fresh, h.apart⟩
theorem Goes.drawn (ρ : Rho) (s : St) (w : World) : Goes ρ s w ρ s (drawn w) :=
  ⟨Le.refl ρ, fun _ _ h => ⟨h, rfl⟩, Nat.le_refl _, fun _ _ _ => rfl, fun b p h hd _ => ⟨b, p, h, hd, rfl⟩, Nat.le_refl _, rfl, rfl, rfl⟩

/-- A row that lives is written. -/
theorem Rel.put {ρ : Rho} {s : St} {w : World} (h : Rel P γ ρ s w) {b : Nat} {p : Pl} (hb : ρ b = some p) (hl : ¬ Dead (s.get b)) {x : IObj} {o : Obj} (ho : OR P ρ γ p x o) :
    Rel P γ ρ (s.put b x) (setRow w p.blk o) ∧ Goes ρ s w ρ (s.put b x) (setRow w p.blk o) := by
  obtain ⟨hbn, hbs⟩ := h.bound b p hb
  refine ⟨⟨?_, ?_, ?_, ?_⟩, ?_⟩
  · intro b' p' hb' hd
    rw [get_put] at hd ⊢
    by_cases e : b' = b
    · subst e
      rw [if_pos rfl]
      have : p' = p := by rw [hb] at hb'; exact (Option.some.inj hb').symm
      subst this
      exact ⟨o, setRow_get hbs, ho⟩
    · rw [if_neg e] at hd ⊢
      obtain ⟨o', h1, h2⟩ := h.live b' p' hb' hd
      exact ⟨o', by rw [setRow_other (h.apart b' b p' p hb' hb hd hl e)]; exact h1, h2⟩
  · intro b' p' hb'
    have := h.bound b' p' hb'
    exact ⟨this.1, by rw [setRow_size]; exact this.2⟩
  · intro b' hb'
    rw [get_put, if_neg (by have : s.next ≤ b' := hb'; omega)]
    exact h.fresh b' hb'
  · intro b1 b2 p1 p2 h1 h2 d1 d2 hne
    rw [get_put] at d1 d2
    refine h.apart b1 b2 p1 p2 h1 h2 ?_ ?_ hne
    · by_cases e : b1 = b
      · subst e; exact hl
      · rw [if_neg e] at d1; exact d1
    · by_cases e : b2 = b
      · subst e; exact hl
      · rw [if_neg e] at d2; exact d2
  · refine ⟨Le.refl ρ, ?_, Nat.le_refl _, ?_, ?_, by rw [setRow_size]; exact Nat.le_refl _, rfl, rfl, rfl⟩
    · intro b' hb' hn
      refine ⟨hn, ?_⟩
      rw [get_put, if_neg]
      intro e; subst e; rw [hb] at hn; cases hn
    · intro x hx hn
      exact setRow_other (fun e => hn b p hb hl e.symm)
    · intro b' q hb' hd _
      refine ⟨b', q, hb', ?_, rfl⟩
      by_cases e : b' = b
      · subst e; exact hl
      · rw [get_put, if_neg e] at hd; exact hd

def Rho.with (ρ : Rho) (b : Nat) (p : Pl) : Rho := fun x => if x = b then some p else ρ x
theorem Rho.with_self (ρ : Rho) (b : Nat) (p : Pl) : ρ.with b p b = some p := if_pos rfl
theorem Rho.with_other (ρ : Rho) {b x : Nat} (p : Pl) (h : x ≠ b) : ρ.with b p x = ρ x := if_neg h
theorem Rel.le_with {ρ : Rho} {s : St} {w : World} (h : Rel P γ ρ s w) (p : Pl) : Le ρ (ρ.with s.next p) := by
  intro b q hb
  have := (h.bound b q hb).1
  rw [Rho.with_other ρ p (by omega)]; exact hb

def pushed (w : World) (o : Obj) : World := { w with heap := w.heap.push o }
theorem pushed_self (w : World) (o : Obj) : (pushed w o).heap[w.heap.size]? = some o := by simp only [pushed]; exact Array.getElem?_push_size
theorem pushed_other {w : World} {o : Obj} {x : Nat} (h : x < w.heap.size) : (pushed w o).heap[x]? = w.heap[x]? := by
  simp only [pushed]; rw [Array.getElem?_push, if_neg (by omega)]
theorem pushed_size (w : World) (o : Obj) : (pushed w o).heap.size = w.heap.size + 1 := by simp [pushed]

/-- A new row, in a new block. -/
theorem Rel.new {ρ : Rho} {s : St} {w : World} (h : Rel P γ ρ s w) {p : Pl} (hp : p.blk = w.heap.size) {x : IObj} {o : Obj} (ho : OR P (ρ.with s.next p) γ p x o) :
    Rel P γ (ρ.with s.next p) (s.new x) (pushed w o) ∧ Goes ρ s w (ρ.with s.next p) (s.new x) (pushed w o) := by
  have hle := h.le_with p
  refine ⟨⟨?_, ?_, ?_, ?_⟩, ?_⟩
  · intro b q hb hd
    rw [get_new] at hd ⊢
    by_cases e : b = s.next
    · subst e
      rw [Rho.with_self] at hb
      cases hb
      rw [if_pos rfl]
      exact ⟨o, by rw [hp]; exact pushed_self w o, ho⟩
    · rw [Rho.with_other _ _ e] at hb
      rw [if_neg e] at hd ⊢
      obtain ⟨o', h1, h2⟩ := h.live b q hb hd
      exact ⟨o', by rw [pushed_other (h.bound b q hb).2]; exact h1, h2.mono hle⟩
  · intro b q hb
    rw [pushed_size, next_new]
    by_cases e : b = s.next
    · subst e; rw [Rho.with_self] at hb; cases hb; omega
    · rw [Rho.with_other _ _ e] at hb
      have := h.bound b q hb
      omega
  · intro b hb
    rw [next_new] at hb
    rw [get_new, if_neg (by omega)]
    exact h.fresh b (by omega)
  · intro b1 b2 p1 p2 h1 h2 d1 d2 hne
    rw [get_new] at d1 d2
    by_cases e1 : b1 = s.next
    · subst e1
      have e2 : b2 ≠ s.next := fun e => hne e.symm
      rw [Rho.with_self] at h1; cases h1
      rw [Rho.with_other _ _ e2] at h2
      have := (h.bound b2 p2 h2).2
      omega
    · rw [Rho.with_other _ _ e1] at h1
      rw [if_neg e1] at d1
      by_cases e2 : b2 = s.next
      · subst e2
        rw [Rho.with_self] at h2; cases h2
        have := (h.bound b1 p1 h1).2
        omega
      · rw [Rho.with_other _ _ e2] at h2
        rw [if_neg e2] at d2
        exact h.apart b1 b2 p1 p2 h1 h2 d1 d2 hne
  · refine ⟨hle, ?_, by rw [next_new]; omega, fun x hx _ => pushed_other hx, ?_, by rw [pushed_size]; omega, rfl, rfl, rfl⟩
    · intro b hb hn
      rw [Rho.with_other _ _ (by omega), get_new, if_neg (by omega)]
      exact ⟨hn, rfl⟩
    · intro b q hb hd hx
      by_cases e : b = s.next
      · subst e; rw [Rho.with_self] at hb; cases hb; omega
      · rw [Rho.with_other _ _ e] at hb; rw [get_new, if_neg e] at hd; exact ⟨b, q, hb, hd, rfl⟩

/-- A row dies. -/
theorem Rel.kill {ρ : Rho} {s : St} {w : World} (h : Rel P γ ρ s w) {b : Nat} {p : Pl} (hb : ρ b = some p) :
    Rel P γ ρ (s.put b .dead) w ∧ Goes ρ s w ρ (s.put b .dead) w := by
  refine ⟨⟨?_, h.bound, ?_, ?_⟩, ⟨Le.refl ρ, ?_, Nat.le_refl _, fun _ _ _ => rfl, ?_, Nat.le_refl _, rfl, rfl, rfl⟩⟩
  · intro b' q hb' hd
    rw [get_put] at hd ⊢
    by_cases e : b' = b
    · rw [if_pos e] at hd; exact absurd trivial hd
    · rw [if_neg e] at hd ⊢; exact h.live b' q hb' hd
  · intro b' hb'
    rw [get_put]
    split
    · rfl
    · exact h.fresh b' hb'
  · intro b1 b2 p1 p2 h1 h2 d1 d2 hne
    rw [get_put] at d1 d2
    by_cases e1 : b1 = b
    · rw [if_pos e1] at d1; exact absurd trivial d1
    · by_cases e2 : b2 = b
      · rw [if_pos e2] at d2; exact absurd trivial d2
      · rw [if_neg e1] at d1; rw [if_neg e2] at d2; exact h.apart b1 b2 p1 p2 h1 h2 d1 d2 hne
  · intro b' hb' hn
    refine ⟨hn, ?_⟩
    rw [get_put, if_neg]
    intro e; subst e; rw [hb] at hn; cases hn
  · intro b' q hb' hd _
    rw [get_put] at hd
    by_cases e : b' = b
    · rw [if_pos e] at hd; exact absurd trivial hd
    · rw [if_neg e] at hd; exact ⟨b', q, hb', hd, rfl⟩

/-- A row dies, and another one lies in its block. -/
theorem Rel.over {ρ : Rho} {s : St} {w : World} (h : Rel P γ ρ s w) {b : Nat} {p q : Pl} (hb : ρ b = some p) (hl : ¬ Dead (s.get b)) (hq : q.blk = p.blk) {x : IObj} {o : Obj}
    (ho : OR P (ρ.with s.next q) γ q x o) :
    Rel P γ (ρ.with s.next q) ((s.put b .dead).new x) (setRow w p.blk o) ∧ Goes ρ s w (ρ.with s.next q) ((s.put b .dead).new x) (setRow w p.blk o) := by
  have hle := h.le_with q
  obtain ⟨hbn, hbs⟩ := h.bound b p hb
  have hg : ∀ j, ((s.put b .dead).new x).get j = if j = s.next then x else if j = b then .dead else s.get j := fun j => by rw [get_new, get_put, next_put]
  have hn : ((s.put b .dead).new x).next = s.next + 1 := rfl
  refine ⟨⟨?_, ?_, ?_, ?_⟩, ?_⟩
  · intro b' q' hb' hd
    rw [hg] at hd ⊢
    by_cases e : b' = s.next
    · subst e
      rw [Rho.with_self] at hb'; cases hb'
      rw [if_pos rfl]
      exact ⟨o, by rw [hq]; exact setRow_get hbs, ho⟩
    · rw [Rho.with_other _ _ e] at hb'
      rw [if_neg e] at hd ⊢
      by_cases e2 : b' = b
      · rw [if_pos e2] at hd; exact absurd trivial hd
      · rw [if_neg e2] at hd ⊢
        obtain ⟨o', h1, h2⟩ := h.live b' q' hb' hd
        exact ⟨o', by rw [setRow_other (h.apart b' b q' p hb' hb hd hl e2)]; exact h1, h2.mono hle⟩
  · intro b' q' hb'
    rw [setRow_size, hn]
    by_cases e : b' = s.next
    · subst e; rw [Rho.with_self] at hb'; cases hb'; rw [hq]; omega
    · rw [Rho.with_other _ _ e] at hb'
      have := h.bound b' q' hb'
      omega
  · intro b' hb'
    rw [hn] at hb'
    rw [hg, if_neg (by omega), if_neg (by omega)]
    exact h.fresh b' (by omega)
  · intro b1 b2 p1 p2 h1 h2 d1 d2 hne
    rw [hg] at d1 d2
    by_cases e1 : b1 = s.next
    · subst e1
      have e2 : b2 ≠ s.next := fun e => hne e.symm
      rw [Rho.with_self] at h1; cases h1
      rw [Rho.with_other _ _ e2] at h2
      rw [if_neg e2] at d2
      by_cases e3 : b2 = b
      · rw [if_pos e3] at d2; exact absurd trivial d2
      · rw [if_neg e3] at d2
        rw [hq]
        exact fun e => h.apart b2 b p2 p h2 hb d2 hl e3 e.symm
    · rw [Rho.with_other _ _ e1] at h1
      rw [if_neg e1] at d1
      by_cases e3 : b1 = b
      · rw [if_pos e3] at d1; exact absurd trivial d1
      · rw [if_neg e3] at d1
        by_cases e2 : b2 = s.next
        · subst e2
          rw [Rho.with_self] at h2; cases h2
          rw [hq]
          exact h.apart b1 b p1 p h1 hb d1 hl e3
        · rw [Rho.with_other _ _ e2] at h2
          rw [if_neg e2] at d2
          by_cases e4 : b2 = b
          · rw [if_pos e4] at d2; exact absurd trivial d2
          · rw [if_neg e4] at d2
            exact h.apart b1 b2 p1 p2 h1 h2 d1 d2 hne
  · refine ⟨hle, ?_, by rw [hn]; omega, ?_, ?_, by rw [setRow_size]; exact Nat.le_refl _, rfl, rfl, rfl⟩
    · intro b' hb' hno
      rw [Rho.with_other _ _ (by omega), hg, if_neg (by omega), if_neg]
      · exact ⟨hno, rfl⟩
      · intro e; subst e; rw [hb] at hno; cases hno
    · intro y hy hno
      exact setRow_other (fun e => hno b p hb hl e.symm)
    · intro b' q' hb' hd hx
      by_cases e : b' = s.next
      · subst e; rw [Rho.with_self] at hb'; cases hb'; exact ⟨b, p, hb, hl, hq.symm⟩
      · rw [Rho.with_other _ _ e] at hb'
        rw [hg, if_neg e] at hd
        by_cases e2 : b' = b
        · rw [if_pos e2] at hd; exact absurd trivial hd
        · rw [if_neg e2] at hd; exact ⟨b', q', hb', hd, rfl⟩
end Go.Eng
