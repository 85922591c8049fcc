/- A part of the proof: an interpreter of the program, shown right once, and the laws that it computes. -/
import Derived.Test.YtphdmkiedglfmaaGreatEng28
import Derived.Still
import Derived.Below
set_option linter.constructorNameAsVariable false
set_option linter.unusedVariables false
set_option linter.unusedSimpArgs false
namespace Go.Eng
variable {P : Program} {γ : Gam} {Df : List Deferred}

theorem listEq_eq : ∀ {a b : List Nat}, listEq a b = true → a = b
  | [], [], _ => rfl
  | x :: a, y :: b, h => by
    unfold listEq at h
    cases hb : Nat.beq x y with
    | false => rw [hb] at h; cases h
    | true => rw [hb] at h; rw [Nat.eq_of_beq_eq_true hb, listEq_eq h]
  | [], _ :: _, h => by cases h
  | _ :: _, [], h => by cases h

mutual
theorem ieq_eq : ∀ {a b : IV}, ieq a b = true → a = b
  | .bool a, .bool b, h => by simp only [ieq] at h; rw [eq_of_beq h]
  | .int k a, .int k' b, h => by
    simp only [ieq, Bool.and_eq_true] at h
    have h2 := h.2; rw [eqI_eq] at h2
    rw [(kindEq_iff _ _).1 h.1, show a = b by simpa using h2]
  | .str a, .str b, h => by simp only [ieq] at h; rw [listEq_eq h]
  | .nilptr, .nilptr, _ => rfl
  | .ptr a b, .ptr c d, h => by simp only [ieq, Bool.and_eq_true] at h; rw [Nat.eq_of_beq_eq_true h.1, Nat.eq_of_beq_eq_true h.2]
  | .nilsl, .nilsl, _ => rfl
  | .sl a b c d x, .sl a' b' c' d' x', h => by
    simp only [ieq, Bool.and_eq_true] at h
    obtain ⟨⟨⟨⟨h1, h2⟩, h3⟩, h4⟩, h5⟩ := h
    rw [Nat.eq_of_beq_eq_true h1, Nat.eq_of_beq_eq_true h2, Nat.eq_of_beq_eq_true h3, Nat.eq_of_beq_eq_true h4, eq_of_beq h5]
  | .nilmap, .nilmap, _ => rfl
  | .map a, .map b, h => by simp only [ieq] at h; rw [Nat.eq_of_beq_eq_true h]
  | .nilfn, .nilfn, _ => rfl
  | .niliface, .niliface, _ => rfl
  | .iface t v, .iface t' v', h => by simp only [ieq, Bool.and_eq_true] at h; rw [Nat.eq_of_beq_eq_true h.1, ieq_eq h.2]
  | .agg l, .agg l', h => by simp only [ieq] at h; rw [ieqs_eq h]
  | .tup l, .tup l', h => by simp only [ieq] at h; rw [ieqs_eq h]
  | .sym a, .sym b, h => by simp only [ieq] at h; rw [Nat.eq_of_beq_eq_true h]
  | .sstr a, .sstr b, h => by simp only [ieq] at h; rw [listEq_eq h]
theorem ieqs_eq : ∀ {a b : List IV}, ieqs a b = true → a = b
  | [], [], _ => rfl
  | x :: a, y :: b, h => by simp only [ieqs, Bool.and_eq_true] at h; rw [ieq_eq h.1, ieqs_eq h.2]
  | [], _ :: _, h => by cases h
  | _ :: _, [], h => by cases h
end

theorem still_spec {s : St} {bef : Nat} : ∀ {l : List Pend}, stillOk s bef l = true → ∀ q ∈ l, bef.testBit q.i = false → sameR q.v (q.f noExt noRec q.env s .ok) = true
  | q :: l, h, q', hq, hb => by
    unfold stillOk at h
    cases hh : has bef q.i with
    | true =>
      rw [hh] at h
      rcases List.mem_cons.1 hq with rfl | hq
      · rw [has_eq, hb] at hh; cases hh
      · exact still_spec h q' hq hb
    | false =>
      rw [hh] at h
      simp only at h
      cases hs : sameR q.v (q.f noExt noRec q.env s .ok) with
      | false => rw [hs] at h; cases h
      | true =>
        rw [hs] at h
        rcases List.mem_cons.1 hq with rfl | hq
        · exact hs
        · exact still_spec h q' hq hb
theorem drop_spec {bef : Nat} : ∀ {l : List Pend} {q : Pend}, q ∈ l → bef.testBit q.i = false → q ∈ dropB bef l
  | q' :: l, q, hq, hb => by
    unfold dropB
    rcases List.mem_cons.1 hq with rfl | hq
    · rw [has_eq, hb]; exact List.mem_cons_self
    · cases has bef q'.i with
      | true => exact drop_spec hq hb
      | false => exact List.mem_cons_of_mem _ (drop_spec hq hb)

/-- What the ideal has done, and the machine not yet. -/
structure Late where
  p : Plan
  v : IV
  env : Env
  ran : Bool
  b : Nat

def Looks (ops : Array Oper) (o : Oper) (t : Nat) : Prop := .tmp t ∈ o.op.operands.toList ∨ ∃ j b oj, o.guard = some (j, b) ∧ ops[j]? = some oj ∧ oj.dst = some t

inductive LateOk (P : Program) (γ : Gam) (n : Nat) (s₀ : St) (ρ : Rho) (s : St) (pend : List Pend) (d : Late) : Prop where
  | skip (hr : d.ran = false) (hv : d.v = undefI)
  | pure (hr : d.ran = true) (hc : d.p.cls = .pure) (fa) (hx : execT P n d.p.o.op = .mk fa) (hf : PureA fa) (hv : fa noExt noRec d.env s .ok = .ok d.v s)
  | read (hr : d.ran = true) (hc : d.p.cls = .read) (fa) (hx : execT P n d.p.o.op = .mk fa) (hf : ReadA fa) (hp : ⟨d.p.i, fa, d.v, d.env⟩ ∈ pend) (hv : fa noExt noRec d.env s .ok = .ok d.v s)
  | made (hr : d.ran = true) (hc : d.p.cls = .made) (hb : ρ d.b = none) (hlt : d.b < s.next) (h0 : s₀.next ≤ d.b)
      (hv : ∀ (ρ : Rho) (w : World) (a : Go.Act), ρ d.b = none → OpsR P γ n ρ d.env a d.p.o.op.operands.toList →
        ∃ v' ob q j, (execOp a.eval d.p.o).run P w = .ok (.value v') (pushed (dr j w) ob) ∧ q.blk = w.heap.size ∧ OR P (ρ.with d.b q) γ q (s.get d.b) ob ∧ VR (ρ.with d.b q) γ d.v v')

structure Inv (P : Program) (γ : Gam) (Df : List Deferred) (n : Nat) (ops : Array Oper) (l : List Plan) (s₀ : St) (ρ₀ : Rho) (w₀ : World) (D : List Late) (rest : List Plan) (pend : List Pend) (env : Env) (s : St) (L : Array Bool)
    (ρ : Rho) (a : Go.Act) (w : World) (done : Nat) (last : Option Nat) : Prop where
  rel : Rel P γ ρ s w
  glob : Glob P ρ
  goes : Goes ρ₀ s₀ w₀ ρ s w
  size : a.tmps.size = n
  defers : a.defers = Df
  Lsize : L.size = ops.size
  Lspec : ∀ q ∈ l, L.getD q.i false = true ↔ q ∉ D.map (·.p) ∧ q ∉ rest
  closed : ∀ q ∈ l, L.getD q.i false = true → ∀ q' ∈ l, q.bef.testBit q'.i = true → L.getD q'.i false = true
  subD : ∀ d ∈ D, d.p ∈ l
  subR : ∀ q ∈ rest, q ∈ l
  nodup : (D.map (·.p) ++ rest).Nodup
  lin : LinFrom done rest
  doneR : ∀ q ∈ rest, done.testBit q.i = false
  dord : ∀ d ∈ D, ∀ q ∈ rest, d.p.bef.testBit q.i = false
  hards : HardsFrom last rest
  lastL : ∀ j, last = some j → ∃ h ∈ l, h.i = j ∧ h ∉ rest
  slots : ∀ t f g, slotT n t = .mk f g → (∃ d ∈ D, d.p.o.dst = some t) ∨ VR ρ γ (f env) (a.tmps.getD t undef)
  vals : ∀ d ∈ D, ∀ t f g, d.p.o.dst = some t → slotT n t = .mk f g → f env = d.v
  dslots : ∀ d ∈ D, ∀ t f g, Looks ops d.p.o t → slotT n t = .mk f g → (∃ d2 ∈ D, d2.p.o.dst = some t ∧ d.p.bef.testBit d2.p.i = true) ∨ VR ρ γ (f d.env) (a.tmps.getD t undef)
  dvals : ∀ d ∈ D, ∀ d2 ∈ D, ∀ t f g, d.p.bef.testBit d2.p.i = true → d2.p.o.dst = some t → slotT n t = .mk f g → f d.env = d2.v
  late : ∀ d ∈ D, LateOk P γ n s₀ ρ s pend d
  want : ∀ d ∈ D, WantG γ n ops d.p.o d.env d.ran
  outs : ∀ d ∈ D, ∃ g, outT n d.p.o.dst = .mk g
  blocks : ∀ d ∈ D, ∀ d2 ∈ D, d.p.cls = .made → d2.p.cls = .made → d.ran = true → d2.ran = true → d.p ≠ d2.p → d.b ≠ d2.b

variable {n : Nat} {ops : Array Oper} {l : List Plan} {s₀ : St} {ρ₀ : Rho} {w₀ : World}

theorem looks_spec (hF : PlanFacts P ops l) {p q : Plan} {t : Nat} (hp : p ∈ l) (hl : Looks ops p.o t) (hq : q ∈ l) (hd : q.o.dst = some t) : p.bef.testBit q.i = true ∨ q.bef.testBit p.i = true := by
  rcases hl with hl | ⟨j, b, oj, h1, h2, h3⟩
  · exact hF.look p hp t hl q hq hd
  · left
    have hj : j < ops.size := (Array.getElem?_eq_some_iff.1 h2).1
    obtain ⟨r, hr1, hr2⟩ := hF.idx j hj
    have hro := (hF.op r hr1).1
    rw [hr2, h2] at hro
    have : r.o.dst = some t := by rw [← Option.some.inj hro]; exact h3
    have := hF.once q hq r hr1 t hd this
    subst this
    rw [hr2]
    exact hF.guard p hp j b h1

theorem put_other {g : IV → Env → Env} {dst : Option Nat} {t : Nat} {f g' } {v : IV} {env : Env} (hg : outT n dst = .mk g) (ht : slotT n t = .mk f g') (hne : dst ≠ some t) : f (g v env) = f env := by
  rcases outT_inv hg with ⟨rfl, rfl⟩ | ⟨d, f', rfl, hs⟩
  · rfl
  · rw [slot_put hs ht, if_neg (fun e => hne (by rw [e]))]
theorem put_same {g : IV → Env → Env} {t : Nat} {f g' } {v : IV} {env : Env} (hg : outT n (some t) = .mk g) (ht : slotT n t = .mk f g') : f (g v env) = v := by
  rcases outT_inv hg with ⟨h, _⟩ | ⟨d, f', h, hs⟩
  · cases h
  · cases h; rw [slot_put hs ht, if_pos rfl]

/-- The ideal goes on by an operation that may come late. -/
theorem Inv.absorb (hF : PlanFacts P ops l) {D : List Late} {p : Plan} {ps : List Plan} {pend pend' : List Pend} {env : Env} {s s' : St} {L : Array Bool} {ρ : Rho} {a : Go.Act} {w : World} {done : Nat} {last : Option Nat}
    (h : Inv P γ Df n ops l s₀ ρ₀ w₀ D (p :: ps) pend env s L ρ a w done last) {g : IV → Env → Env} (hg : outT n p.o.dst = .mk g) (d : Late) (hd1 : d.p = p) (hd2 : d.env = env)
    (hrel : Rel P γ ρ s' w) (hgoes : Goes ρ₀ s₀ w₀ ρ s' w) (hlate : ∀ d' ∈ D, LateOk P γ n s₀ ρ s' pend' d') (hd : LateOk P γ n s₀ ρ s' pend' d) (hw : WantG γ n ops p.o env d.ran)
    (hblk : d.p.cls = .made → d.ran = true → ∀ d2 ∈ D, d2.p.cls = .made → d2.ran = true → d.b ≠ d2.b) :
    Inv P γ Df n ops l s₀ ρ₀ w₀ (d :: D) ps pend' (g d.v env) s' L ρ a w (done ||| 2 ^ p.i) (match p.cls with | .hard => some p.i | _ => last) := by
  subst hd1
  have hpl := h.subR d.p List.mem_cons_self
  have hnd := h.nodup
  have hperm : (D.map (·.p) ++ d.p :: ps).Perm ((d :: D).map (·.p) ++ ps) := by
    rw [List.map_cons, List.cons_append]; exact List.perm_middle
  have hnd' := hperm.nodup_iff.1 hnd
  have hnotD : d.p ∉ D.map (·.p) := fun hm => by
    have := (List.nodup_cons.1 (by rw [List.map_cons, List.cons_append] at hnd'; exact hnd')).1
    exact this (List.mem_append_left _ hm)
  have hnotR : d.p ∉ ps := fun hm => by
    have := (List.nodup_cons.1 (by rw [List.map_cons, List.cons_append] at hnd'; exact hnd')).1
    exact this (List.mem_append_right _ hm)
  have hself : d.p.bef.testBit d.p.i = false := by
    cases hb : d.p.bef.testBit d.p.i with
    | false => rfl
    | true => have := ready_bits h.lin.1 _ hb; rw [h.doneR d.p List.mem_cons_self] at this; cases this
  have hne : ∀ d2 ∈ D, ∀ t, d2.p.o.dst = some t → d.p.o.dst ≠ some t := fun d2 h2 t ht he => by
    have := hF.once d2.p (h.subD d2 h2) d.p hpl t ht he
    exact hnotD (this ▸ List.mem_map_of_mem h2)
  refine ⟨hrel, h.glob, hgoes, h.size, h.defers, h.Lsize, ?_, h.closed, ?_, fun q hq => h.subR q (List.mem_cons_of_mem _ hq), hnd', h.lin.2, ?_, ?_, ?_, ?_, ?_, ?_, ?_, ?_, ?_, ?_, ?_, ?_⟩
  · intro q hq
    rw [h.Lspec q hq]
    simp only [List.map_cons, List.mem_cons, not_or]
    constructor
    · rintro ⟨h1, h2, h3⟩; exact ⟨⟨h2, h1⟩, h3⟩
    · rintro ⟨⟨h2, h1⟩, h3⟩; exact ⟨h1, h2, h3⟩
  · intro d2 h2
    rcases List.mem_cons.1 h2 with rfl | h2
    · exact hpl
    · exact h.subD d2 h2
  · intro q hq
    rw [Nat.testBit_or, h.doneR q (List.mem_cons_of_mem _ hq), Nat.testBit_two_pow, Bool.false_or]
    refine decide_eq_false fun e => ?_
    have := hF.inj d.p hpl q (h.subR q (List.mem_cons_of_mem _ hq)) e
    exact hnotR (this ▸ hq)
  · intro d2 h2 q hq
    rcases List.mem_cons.1 h2 with rfl | h2
    · cases hb : d2.p.bef.testBit q.i with
      | false => rfl
      | true => have := ready_bits h.lin.1 _ hb; rw [h.doneR q (List.mem_cons_of_mem _ hq)] at this; cases this
    · exact h.dord d2 h2 q (List.mem_cons_of_mem _ hq)
  · exact h.hards.2
  · intro j hj
    have hold : last = some j → ∃ x ∈ l, x.i = j ∧ x ∉ ps := fun hj => by
      obtain ⟨x, h1, h2, h3⟩ := h.lastL j hj
      exact ⟨x, h1, h2, fun hm => h3 (List.mem_cons_of_mem _ hm)⟩
    cases hcc : d.p.cls <;> rw [hcc] at hj <;> first
      | exact hold hj
      | (cases hj; exact ⟨d.p, hpl, rfl, hnotR⟩)
  · intro t f g' ht
    by_cases e : d.p.o.dst = some t
    · exact .inl ⟨d, List.mem_cons_self, e⟩
    · rw [put_other hg ht e]
      rcases h.slots t f g' ht with ⟨d2, h1, h2⟩ | h1
      · exact .inl ⟨d2, List.mem_cons_of_mem _ h1, h2⟩
      · exact .inr h1
  · intro d2 h2 t f g' ht hs
    rcases List.mem_cons.1 h2 with rfl | h2
    · rw [ht] at hg; exact put_same hg hs
    · rw [put_other hg hs (hne d2 h2 t ht)]
      exact h.vals d2 h2 t f g' ht hs
  · intro d2 h2 t f g' hl hs
    rcases List.mem_cons.1 h2 with rfl | h2
    · rw [hd2]
      rcases h.slots t f g' hs with ⟨d3, h3, h4⟩ | h3
      · left
        refine ⟨d3, List.mem_cons_of_mem _ h3, h4, ?_⟩
        rcases looks_spec hF hpl hl (h.subD d3 h3) h4 with h5 | h5
        · exact h5
        · rw [h.dord d3 h3 d2.p List.mem_cons_self] at h5; cases h5
      · exact .inr h3
    · rcases h.dslots d2 h2 t f g' hl hs with ⟨d3, h3, h4⟩ | h3
      · exact .inl ⟨d3, List.mem_cons_of_mem _ h3, h4⟩
      · exact .inr h3
  · intro d2 h2 d3 h3 t f g' hb hdst hs
    rcases List.mem_cons.1 h2 with e2 | k2
    · rcases List.mem_cons.1 h3 with e3 | k3
      · rw [e2, e3, hself] at hb; cases hb
      · rw [e2, hd2]; exact h.vals d3 k3 t f g' hdst hs
    · rcases List.mem_cons.1 h3 with e3 | k3
      · rw [e3, h.dord d2 k2 d.p List.mem_cons_self] at hb; cases hb
      · exact h.dvals d2 k2 d3 k3 t f g' hb hdst hs
  · intro d2 h2
    rcases List.mem_cons.1 h2 with rfl | h2
    · exact hd
    · exact hlate d2 h2
  · intro d2 h2
    rcases List.mem_cons.1 h2 with rfl | h2
    · rw [hd2]; exact hw
    · exact h.want d2 h2
  · intro d2 h2
    rcases List.mem_cons.1 h2 with rfl | h2
    · exact ⟨g, hg⟩
    · exact h.outs d2 h2
  · intro d2 h2 d3 h3 c2 c3 r2 r3 hne'
    rcases List.mem_cons.1 h2 with e2 | k2
    · rcases List.mem_cons.1 h3 with e3 | k3
      · exact absurd (by rw [e2, e3]) hne'
      · subst e2; exact hblk c2 r2 d3 k3 c3 r3
    · rcases List.mem_cons.1 h3 with e3 | k3
      · subst e3; exact (hblk c3 r3 d2 k2 c2 r2).symm
      · exact h.blocks d2 k2 d3 k3 c2 c3 r2 r3 hne'
end Go.Eng

set_option linter.constructorNameAsVariable false
set_option linter.unusedVariables false
set_option linter.unusedSimpArgs false
namespace Go.Eng
variable {P : Program} {γ : Gam} {Df : List Deferred}
variable {n : Nat} {ops : Array Oper} {l : List Plan} {s₀ : St} {ρ₀ : Rho} {w₀ : World}

theorem getD_set (L : Array Bool) (i j : Nat) (hi : i < L.size) (b : Bool) : (L.setIfInBounds i true).getD j b = if j = i then true else L.getD j b := by
  rw [Array.getD_eq_getD_getElem?, Array.getD_eq_getD_getElem?, Array.getElem?_setIfInBounds]
  by_cases h : i = j
  · subst h; simp [hi]
  · simp [h, Ne.symm h]

/-- What is ready has all that must stand ahead of it done. -/
theorem ready_bef (hF : PlanFacts P ops l) {D rest pend env s L ρ a w done last} (h : Inv P γ Df n ops l s₀ ρ₀ w₀ D rest pend env s L ρ a w done last) {p : Plan} (hp : p ∈ l) (hr : p.i ∈ Region.ready .any ops L) :
    L.getD p.i false = false ∧ ∀ q ∈ l, p.bef.testBit q.i = true → L.getD q.i false = true := by
  obtain ⟨h1, o, h2, h3⟩ := mem_ready.1 hr
  have hop := (hF.op p hp).1
  rw [h2] at hop
  have ho := Option.some.inj hop
  have hlt : p.i < L.size := by rw [h.Lsize]; exact (Array.getElem?_eq_some_iff.1 h2).1
  refine ⟨?_, fun q hq hb => ?_⟩
  · rw [Array.getD_eq_getD_getElem?] at h1 ⊢
    rw [Array.getElem?_eq_getElem hlt] at h1 ⊢
    exact h1
  · obtain ⟨e, he, hbe, h4⟩ := hF.bef p hp q.i hb
    have h5 := h3 e (by rw [ho]; exact Array.mem_toList_iff.1 he) hbe
    rcases h4 with h4 | ⟨r, hr1, hr2, hr3⟩
    · rw [h4]; exact h5
    · exact h.closed r hr1 (by rw [hr2]; exact h5) q hq hr3

/-- What is listed from here on. -/
theorem closed_set (hF : PlanFacts P ops l) {L : Array Bool} {p : Plan} (hp : p ∈ l) (hlt : p.i < L.size) (hc : ∀ q ∈ l, L.getD q.i false = true → ∀ q' ∈ l, q.bef.testBit q'.i = true → L.getD q'.i false = true)
    (hb : ∀ q ∈ l, p.bef.testBit q.i = true → L.getD q.i false = true) : ∀ q ∈ l, (L.setIfInBounds p.i true).getD q.i false = true → ∀ q' ∈ l, q.bef.testBit q'.i = true → (L.setIfInBounds p.i true).getD q'.i false = true := by
  intro q hq h1 q' hq' h2
  rw [getD_set _ _ _ hlt] at h1 ⊢
  split
  · rfl
  · by_cases e : q.i = p.i
    · have := hF.inj q hq p hp e
      subst this
      exact hb q' hq' h2
    · rw [if_neg e] at h1
      exact hc q hq h1 q' hq' h2

theorem Lspec_set (hF : PlanFacts P ops l) {L : Array Bool} {p : Plan} {A B : List Plan} (hp : p ∈ l) (hlt : p.i < L.size) (hL : ∀ q ∈ l, L.getD q.i false = true ↔ q ∉ A) (hB : ∀ q, q ∈ A ↔ q = p ∨ q ∈ B) (hpB : p ∉ B) :
    ∀ q ∈ l, (L.setIfInBounds p.i true).getD q.i false = true ↔ q ∉ B := by
  intro q hq
  rw [getD_set _ _ _ hlt]
  by_cases e : q.i = p.i
  · have := hF.inj q hq p hp e
    subst this
    simp [hpB]
  · rw [if_neg e, hL q hq, hB]
    have : q ≠ p := fun h => e (by rw [h])
    simp [this]

/-- An operation's operands, when all ahead of it is done. -/
theorem ops_of {n : Nat} {ρ : Rho} {env : Env} {a : Go.Act} {o : Oper} (hg : Glob P ρ) (hs : ∀ t f g, Looks ops o t → slotT n t = .mk f g → VR ρ γ (f env) (a.tmps.getD t undef)) : OpsR P γ n ρ env a o.op.operands.toList := by
  intro x hx
  cases x with
  | tmp t => exact ev_tmp fun f g h => hs t f g (.inl hx) h
  | const v => exact ev_const
  | global g => exact ev_global hg
  | func f => exact ev_func

/-- One that comes late is done. -/
theorem Inv.doLate (hF : PlanFacts P ops l) {D₁ D₂ : List Late} {d : Late} {rest pend env s L ρ a w done last} (h : Inv P γ Df n ops l s₀ ρ₀ w₀ (D₁ ++ d :: D₂) rest pend env s L ρ a w done last) (hr : d.p.i ∈ Region.ready .any ops L)
    (K : Go.Act → World → Prop) (Q : Exit → Go.Act → World → Prop) (hK : ∀ ρ' a' w', Inv P γ Df n ops l s₀ ρ₀ w₀ (D₁ ++ D₂) rest pend env s (L.setIfInBounds d.p.i true) ρ' a' w' done last → K a' w') :
    wpOp P ops Q d.p.i K a w := by
  have hdD : d ∈ D₁ ++ d :: D₂ := by simp
  have hpl := h.subD d hdD
  obtain ⟨hL0, hbef⟩ := ready_bef hF h hpl hr
  have hop := (hF.op d.p hpl).1
  have hlt : d.p.i < L.size := by rw [h.Lsize]; exact (Array.getElem?_eq_some_iff.1 hop).1
  have hsub : ∀ x, x ∈ D₁ ++ D₂ → x ∈ D₁ ++ d :: D₂ := fun x hx => by
    rcases List.mem_append.1 hx with hx | hx <;> simp [hx]
  have hcase : ∀ x, x ∈ D₁ ++ d :: D₂ → x = d ∨ x ∈ D₁ ++ D₂ := fun x hx => by
    rcases List.mem_append.1 hx with hx | hx
    · exact .inr (List.mem_append_left _ hx)
    · rcases List.mem_cons.1 hx with hx | hx
      · exact .inl hx
      · exact .inr (List.mem_append_right _ hx)
  have hperm : ((D₁ ++ d :: D₂).map (·.p) ++ rest).Perm (d.p :: ((D₁ ++ D₂).map (·.p) ++ rest)) := by
    simp only [List.map_append, List.map_cons, List.append_assoc, List.cons_append]
    exact List.perm_middle
  have hnd := List.nodup_cons.1 (hperm.nodup_iff.1 h.nodup)
  have hnot : ∀ x ∈ D₁ ++ D₂, x.p ≠ d.p := fun x hx e => hnd.1 (List.mem_append_left _ (e ▸ List.mem_map_of_mem hx))
  -- what is done is in none of both
  have hdone : ∀ x ∈ D₁ ++ d :: D₂, L.getD x.p.i false = true → False := fun x hx hLx =>
    ((h.Lspec x.p (h.subD x hx)).1 hLx).1 (List.mem_map_of_mem hx)
  have hlook : ∀ t f g, Looks ops d.p.o t → slotT n t = .mk f g → VR ρ γ (f d.env) (a.tmps.getD t undef) := by
    intro t f g hlk hs
    rcases h.dslots d hdD t f g hlk hs with ⟨d2, h1, h2, h3⟩ | h1
    · exact absurd (hbef d2.p (h.subD d2 h1) h3) (fun hh => hdone d2 h1 hh)
    · exact h1
  have hops : OpsR P γ n ρ d.env a d.p.o.op.operands.toList := ops_of h.glob hlook
  have hwant := h.want d hdD ρ a h.size (fun j b t f g hg ⟨oj, h1, h2⟩ hs => hlook t f g (.inr ⟨j, b, oj, hg, h1, h2⟩) hs)
  obtain ⟨g, hout⟩ := h.outs d hdD
  -- it has been done
  have fin : ∀ ρ' w' v', Le ρ ρ' → Rel P γ ρ' s w' → Goes ρ₀ s₀ w₀ ρ' s w' → VR ρ' γ d.v v' → (∀ d2 ∈ D₁ ++ D₂, LateOk P γ n s₀ ρ' s pend d2) → K (a.put d.p.o.dst v') w' := by
    intro ρ' w' v' hle hrel hgoes hv hlate
    have hsame : ∀ t f g', slotT n t = .mk f g' → d.p.o.dst ≠ some t → (a.put d.p.o.dst v').tmps.getD t undef = a.tmps.getD t undef := by
      intro t f g' hs hne
      rcases outT_inv hout with ⟨h1, _⟩ | ⟨t', f', h1, h2⟩
      · rw [h1]; rfl
      · rw [h1, getD_put (by rw [h.size]; exact slot_lt h2), if_neg (fun e => hne (by rw [h1, e]))]
    have hnew : ∀ t f g', slotT n t = .mk f g' → d.p.o.dst = some t → (a.put d.p.o.dst v').tmps.getD t undef = v' := by
      intro t f g' hs he
      rw [he, getD_put (by rw [h.size]; exact slot_lt hs), if_pos rfl]
    refine hK ρ' _ w' ⟨hrel, h.glob.mono hle, hgoes, ?_, ?_, by rw [Array.size_setIfInBounds]; exact h.Lsize, ?_, closed_set hF hpl hlt h.closed hbef, fun x hx => h.subD x (hsub x hx), h.subR, hnd.2, h.lin, h.doneR,
      fun x hx => h.dord x (hsub x hx), h.hards, h.lastL, ?_, fun x hx => h.vals x (hsub x hx), ?_, fun x hx y hy => h.dvals x (hsub x hx) y (hsub y hy), hlate, fun x hx => h.want x (hsub x hx), fun x hx => h.outs x (hsub x hx),
      fun x hx y hy => h.blocks x (hsub x hx) y (hsub y hy)⟩
    · cases d.p.o.dst <;> simp [Act.put, h.size]
    · cases d.p.o.dst <;> simp [Act.put, h.defers]
    · have := Lspec_set hF (A := (D₁ ++ d :: D₂).map (·.p) ++ rest) (B := (D₁ ++ D₂).map (·.p) ++ rest) hpl hlt (fun q hq => by rw [h.Lspec q hq]; simp only [List.mem_append, not_or])
        (fun q => by rw [hperm.mem_iff, List.mem_cons]) hnd.1
      intro q hq
      rw [this q hq]
      simp only [List.mem_append, not_or]
    · intro t f g' hs
      by_cases e : d.p.o.dst = some t
      · right
        rw [hnew t f g' hs e, h.vals d hdD t f g' e hs]
        exact hv
      · rw [hsame t f g' hs e]
        rcases h.slots t f g' hs with ⟨d2, h1, h2⟩ | h1
        · rcases hcase d2 h1 with rfl | h1
          · exact absurd h2 e
          · exact .inl ⟨d2, h1, h2⟩
        · exact .inr (h1.mono hle)
    · intro d2 h2 t f g' hlk hs
      by_cases e : d.p.o.dst = some t
      · right
        rw [hnew t f g' hs e]
        rcases looks_spec hF (h.subD d2 (hsub d2 h2)) hlk hpl e with h3 | h3
        · rw [h.dvals d2 (hsub d2 h2) d hdD t f g' h3 e hs]; exact hv
        · exact absurd (hbef d2.p (h.subD d2 (hsub d2 h2)) h3) (fun hh => hdone d2 (hsub d2 h2) hh)
      · rw [hsame t f g' hs e]
        rcases h.dslots d2 (hsub d2 h2) t f g' hlk hs with ⟨d3, h3, h4, h5⟩ | h3
        · rcases hcase d3 h3 with rfl | h3
          · exact absurd h4 e
          · exact .inl ⟨d3, h3, h4, h5⟩
        · exact .inr (h3.mono hle)
  unfold wpOp
  simp only [hop, hwant]
  have keep : ∀ ρ', (∀ b, b < s.next → ρ b = none → b ≠ d.b ∨ d.p.cls ≠ .made ∨ d.ran = false → ρ' b = none) → ∀ d2 ∈ D₁ ++ D₂, LateOk P γ n s₀ ρ' s pend d2 := by
    intro ρ' hk d2 h2
    cases h.late d2 (hsub d2 h2) with
    | skip q1 q2 => exact .skip q1 q2
    | pure q1 q2 fa q3 q4 q5 => exact .pure q1 q2 fa q3 q4 q5
    | read q1 q2 fa q3 q4 q5 q6 => exact .read q1 q2 fa q3 q4 q5 q6
    | made q1 q2 q3 q4 q5 q6 =>
      refine .made q1 q2 (hk d2.b q4 q3 ?_) q4 q5 q6
      by_cases hm : d.p.cls = .made
      · cases hrn : d.ran with
        | false => exact .inr (.inr rfl)
        | true => exact .inl (h.blocks d2 (hsub d2 h2) d hdD q2 hm q1 hrn (hnot d2 h2))
      · exact .inr (.inl hm)
  cases h.late d hdD with
  | skip q1 q2 =>
    rw [q1]
    simp only [Bool.false_eq_true, if_false]
    exact fin ρ w undef (Le.refl ρ) h.rel h.goes (by rw [q2]; exact .tup [] #[] .nil) (keep ρ fun b _ hb _ => hb)
  | pure q1 q2 fa q3 q4 q5 =>
    rw [q1]
    simp only [if_true]
    obtain ⟨v, s', m1, m2⟩ := exec_ok (P := P) (γ := γ) (n := n) d.p.o.op fa q3 noExt noRec (fun _ _ _ _ _ h => by cases h) (fun _ _ _ _ _ _ h => by cases h) d.env s .ok d.v s q5
    cases m1
    refine .inl ((m2 ρ w a d.p.o rfl h.rel h.glob hops).wp ?_)
    intro ρ' w' v' g1 g2 g3
    exact fin ρ' w' v' g1.le g2 (h.goes.trans g1) g3 (keep ρ' fun b hb hn _ => (g1.unborn b hb hn).1)
  | read q1 q2 fa q3 q4 q5 q6 =>
    rw [q1]
    simp only [if_true]
    obtain ⟨v, s', m1, m2⟩ := exec_ok (P := P) (γ := γ) (n := n) d.p.o.op fa q3 noExt noRec (fun _ _ _ _ _ h => by cases h) (fun _ _ _ _ _ _ h => by cases h) d.env s .ok d.v s q6
    cases m1
    refine .inl ((m2 ρ w a d.p.o rfl h.rel h.glob hops).wp ?_)
    intro ρ' w' v' g1 g2 g3
    exact fin ρ' w' v' g1.le g2 (h.goes.trans g1) g3 (keep ρ' fun b hb hn _ => (g1.unborn b hb hn).1)
  | made q1 q2 q3 q4 q5 q6 =>
    rw [q1]
    simp only [if_true]
    obtain ⟨v', ob, q, j, m1, m2, m3, m4⟩ := q6 ρ w a q3 hops
    have m2 : q.blk = (dr j w).heap.size := by rw [dr_size]; exact m2
    refine .inl ?_
    unfold Oper.wp
    rw [m1]
    refine fin (ρ.with d.b q) _ v' (le_with_none q3) ((h.rel.dr j).born q3 q4 m2 m3) ((h.goes.dr j).born' q3 q5 m2 ob) m4 (keep _ ?_)
    intro b hb hn hne
    rcases hne with hne | hne | hne
    · rw [Rho.with_other _ _ hne]; exact hn
    · exact absurd q2 hne
    · rw [q1] at hne; cases hne
end Go.Eng

set_option linter.constructorNameAsVariable false
set_option linter.unusedVariables false
set_option linter.unusedSimpArgs false
namespace Go.Eng
variable {P : Program} {γ : Gam} {Df : List Deferred}
variable {n : Nat} {ops : Array Oper} {l : List Plan} {s₀ : St} {ρ₀ : Rho} {w₀ : World}

/-- One that leaves its mark is done. -/
theorem Inv.doHard (hF : PlanFacts P ops l) {D : List Late} {p : Plan} {ps pend env s L ρ a w done last} (h : Inv P γ Df n ops l s₀ ρ₀ w₀ D (p :: ps) pend env s L ρ a w done last) (hr : p.i ∈ Region.ready .any ops L) (hc : p.cls = .hard)
    {g : IV → Env → Env} (hout : outT n p.o.dst = .mk g) {v : IV} {s1 : St} (hw : WantG γ n ops p.o env true)
    (hv : ∀ (ρ : Rho) (w : World) (a : Go.Act), Rel P γ ρ s w → Glob P ρ → OpsR P γ n ρ env a p.o.op.operands.toList → Gives P γ ρ s w (execOp a.eval p.o) v s1) (hst : stillOk s1 p.bef pend = true)
    (K : Go.Act → World → Prop) (Q : Exit → Go.Act → World → Prop) (hK : ∀ ρ' a' w', Inv P γ Df n ops l s₀ ρ₀ w₀ D ps (dropB p.bef pend) (g v env) s1 (L.setIfInBounds p.i true) ρ' a' w' (done ||| 2 ^ p.i) (some p.i) → K a' w') :
    wpOp P ops Q p.i K a w := by
  have hpl := h.subR p List.mem_cons_self
  obtain ⟨hL0, hbef⟩ := ready_bef hF h hpl hr
  have hop := (hF.op p hpl).1
  have hlt : p.i < L.size := by rw [h.Lsize]; exact (Array.getElem?_eq_some_iff.1 hop).1
  have hperm : (D.map (·.p) ++ p :: ps).Perm (p :: (D.map (·.p) ++ ps)) := List.perm_middle
  have hnd := List.nodup_cons.1 (hperm.nodup_iff.1 h.nodup)
  have hnotD : ∀ x ∈ D, x.p ≠ p := fun x hx e => hnd.1 (List.mem_append_left _ (e ▸ List.mem_map_of_mem hx))
  have hnotR : p ∉ ps := fun hx => hnd.1 (List.mem_append_right _ hx)
  have hdone : ∀ x ∈ D, L.getD x.p.i false = true → False := fun x hx hLx => ((h.Lspec x.p (h.subD x hx)).1 hLx).1 (List.mem_map_of_mem hx)
  have hbD : ∀ x ∈ D, p.bef.testBit x.p.i = false := fun x hx => by
    cases hb : p.bef.testBit x.p.i with
    | false => rfl
    | true => exact absurd (hbef x.p (h.subD x hx) hb) (fun hh => hdone x hx hh)
  have hlook : ∀ t f g, Looks ops p.o t → slotT n t = .mk f g → VR ρ γ (f env) (a.tmps.getD t undef) := by
    intro t f g hlk hs
    rcases h.slots t f g hs with ⟨d2, h1, h2⟩ | h1
    · rcases looks_spec hF hpl hlk (h.subD d2 h1) h2 with h3 | h3
      · rw [hbD d2 h1] at h3; cases h3
      · rw [h.dord d2 h1 p List.mem_cons_self] at h3; cases h3
    · exact h1
  have hops : OpsR P γ n ρ env a p.o.op.operands.toList := ops_of h.glob hlook
  have hwant := hw ρ a h.size (fun j b t f g hg ⟨oj, h1, h2⟩ hs => hlook t f g (.inr ⟨j, b, oj, hg, h1, h2⟩) hs)
  unfold wpOp
  simp only [hop, hwant, if_true]
  refine .inl ((hv ρ w a h.rel h.glob hops).wp ?_)
  intro ρ' w' v' hgo hrel hvr
  have hle := hgo.le
  have hsame : ∀ t f g', slotT n t = .mk f g' → p.o.dst ≠ some t → (a.put p.o.dst v').tmps.getD t undef = a.tmps.getD t undef := by
    intro t f g' hs hne
    rcases outT_inv hout with ⟨h1, _⟩ | ⟨t', f', h1, h2⟩
    · rw [h1]; rfl
    · rw [h1, getD_put (by rw [h.size]; exact slot_lt h2), if_neg (fun e => hne (by rw [h1, e]))]
  have hnew : ∀ t f g', slotT n t = .mk f g' → p.o.dst = some t → (a.put p.o.dst v').tmps.getD t undef = v' := by
    intro t f g' hs he
    rw [he, getD_put (by rw [h.size]; exact slot_lt hs), if_pos rfl]
  refine hK ρ' _ w' ⟨hrel, h.glob.mono hle, h.goes.trans hgo, ?_, ?_, by rw [Array.size_setIfInBounds]; exact h.Lsize, ?_, closed_set hF hpl hlt h.closed hbef, h.subD, fun q hq => h.subR q (List.mem_cons_of_mem _ hq), hnd.2, h.lin.2, ?_,
    fun x hx q hq => h.dord x hx q (List.mem_cons_of_mem _ hq), ?_, ?_, ?_, ?_, ?_, h.dvals, ?_, h.want, h.outs, h.blocks⟩
  · cases p.o.dst <;> simp [Act.put, h.size]
  · cases p.o.dst <;> simp [Act.put, h.defers]
  · have := Lspec_set hF (A := D.map (·.p) ++ p :: ps) (B := D.map (·.p) ++ ps) hpl hlt (fun q hq => by rw [h.Lspec q hq]; simp only [List.mem_append, not_or])
      (fun q => by rw [hperm.mem_iff, List.mem_cons]) hnd.1
    intro q hq
    rw [this q hq]
    simp only [List.mem_append, not_or]
  · intro q hq
    rw [Nat.testBit_or, h.doneR q (List.mem_cons_of_mem _ hq), Nat.testBit_two_pow, Bool.false_or]
    refine decide_eq_false fun e => ?_
    have := hF.inj p hpl q (h.subR q (List.mem_cons_of_mem _ hq)) e
    exact hnotR (this ▸ hq)
  · have := h.hards.2
    rw [hc] at this
    exact this
  · intro j hj
    cases hj
    exact ⟨p, hpl, rfl, hnotR⟩
  · intro t f g' hs
    by_cases e : p.o.dst = some t
    · right
      rw [hnew t f g' hs e]
      have : f (g v env) = v := by rw [e] at hout; exact put_same hout hs
      rw [this]; exact hvr
    · rw [hsame t f g' hs e, put_other hout hs e]
      rcases h.slots t f g' hs with h1 | h1
      · exact .inl h1
      · exact .inr (h1.mono hle)
  · intro d hd t f g' ht hs
    have e : p.o.dst ≠ some t := fun e => hnotD d hd (hF.once d.p (h.subD d hd) p hpl t ht e)
    rw [put_other hout hs e]
    exact h.vals d hd t f g' ht hs
  · intro d hd t f g' hlk hs
    have e : p.o.dst ≠ some t := fun e => by
      rcases looks_spec hF (h.subD d hd) hlk hpl e with h3 | h3
      · rw [h.dord d hd p List.mem_cons_self] at h3; cases h3
      · rw [hbD d hd] at h3; cases h3
    rw [hsame t f g' hs e]
    rcases h.dslots d hd t f g' hlk hs with h1 | h1
    · exact .inl h1
    · exact .inr (h1.mono hle)
  · intro d hd
    cases h.late d hd with
    | skip q1 q2 => exact .skip q1 q2
    | pure q1 q2 fa q3 q4 q5 => exact .pure q1 q2 fa q3 q4 (q4.2 _ _ _ q5 s1)
    | read q1 q2 fa q3 q4 q5 q6 =>
      refine .read q1 q2 fa q3 q4 (drop_spec q5 (hbD d hd)) ?_
      have hs := still_spec hst _ q5 (hbD d hd)
      simp only at hs
      unfold sameR at hs
      split at hs <;> (try (cases hs; done))
      rename_i v'' s'' hfa
      have e1 := ieq_eq hs
      have e2 := q4.2.2 _ _ _ _ hfa
      rw [hfa, e1, e2]
    | made q1 q2 q3 q4 q5 q6 =>
      obtain ⟨m1, m2⟩ := hgo.unborn d.b q4 q3
      exact .made q1 q2 m1 (Nat.lt_of_lt_of_le q4 hgo.next) q5 (by rw [m2]; exact q6)

theorem hards_step {p : Plan} {ps : List Plan} {j : Nat} (h : HardsFrom (some j) (p :: ps)) : ∃ j2, HardsFrom (some j2) ps ∧ (j2 = j ∨ j2 = p.i) := by
  have h2 := h.2
  cases hc : p.cls <;> rw [hc] at h2 <;> first
    | exact ⟨p.i, h2, .inr rfl⟩
    | exact ⟨j, h2, .inl rfl⟩
/-- Behind a hard one nothing is ready but what is behind it. -/
theorem hards_chain {ps : List Plan} : ∀ {j : Nat}, HardsFrom (some j) ps → ∀ q ∈ ps, ∃ j', q.bef.testBit j' = true ∧ (j' = j ∨ ∃ h ∈ ps, h.i = j') := by
  induction ps with
  | nil => intro j hh q hq; cases hq
  | cons p ps ih =>
    intro j hh q hq
    rcases List.mem_cons.1 hq with e | hq
    · subst e; exact ⟨j, hh.1 j rfl, .inl rfl⟩
    · obtain ⟨j2, h2, h3⟩ := hards_step hh
      obtain ⟨j', q1, q2⟩ := ih h2 q hq
      refine ⟨j', q1, ?_⟩
      rcases q2 with q2 | ⟨x, m1, m2⟩
      · rcases h3 with h3 | h3
        · exact .inl (q2.trans h3)
        · exact .inr ⟨p, List.mem_cons_self, (q2.trans h3).symm⟩
      · exact .inr ⟨x, List.mem_cons_of_mem _ m1, m2⟩

theorem exists_ready (hF : PlanFacts P ops l) {D rest pend env s L ρ a w done last} (h : Inv P γ Df n ops l s₀ ρ₀ w₀ D rest pend env s L ρ a w done last) (hne : 0 < D.length + rest.length) : Region.ready .any ops L ≠ [] := by
  intro hnil
  have key : ∀ m, ∀ p ∈ l, p.i = m → L.getD p.i false = true := by
    intro m
    induction m using Nat.strongRecOn with
    | _ m ih =>
      intro p hp hm
      cases hL : L.getD p.i false with
      | true => rfl
      | false =>
        exfalso
        have hop := (hF.op p hp).1
        have hlt : p.i < L.size := by rw [h.Lsize]; exact (Array.getElem?_eq_some_iff.1 hop).1
        have : p.i ∈ Region.ready .any ops L := by
          refine mem_ready.2 ⟨?_, p.o, hop, fun e he hb => ?_⟩
          · rw [Array.getD_eq_getD_getElem?] at hL ⊢
            rw [Array.getElem?_eq_getElem hlt] at hL ⊢
            exact hL
          · have hlt2 := hF.edge p hp e (Array.mem_toList_iff.2 he) hb
            obtain ⟨q, q1, q2⟩ := hF.idx e.on (by rw [← h.Lsize]; omega)
            rw [← q2]
            exact ih e.on (by omega) q q1 q2
        rw [hnil] at this
        cases this
  cases D with
  | cons d D =>
    have := (h.Lspec d.p (h.subD d List.mem_cons_self)).1 (key _ d.p (h.subD d List.mem_cons_self) rfl)
    exact this.1 (by simp)
  | nil =>
    cases rest with
    | nil => simp at hne
    | cons p rest =>
      have := (h.Lspec p (h.subR p List.mem_cons_self)).1 (key _ p (h.subR p List.mem_cons_self) rfl)
      exact this.2 List.mem_cons_self

theorem no_ready (hF : PlanFacts P ops l) {pend env s L ρ a w done last} (h : Inv P γ Df n ops l s₀ ρ₀ w₀ [] [] pend env s L ρ a w done last) : Region.ready .any ops L = [] := by
  cases hr : Region.ready .any ops L with
  | nil => rfl
  | cons i r =>
    exfalso
    have hi : i ∈ Region.ready .any ops L := by rw [hr]; exact List.mem_cons_self
    obtain ⟨h1, o, h2, h3⟩ := mem_ready.1 hi
    have hlt : i < ops.size := (Array.getElem?_eq_some_iff.1 h2).1
    obtain ⟨p, q1, q2⟩ := hF.idx i hlt
    have := (h.Lspec p q1).2 ⟨by simp, by simp⟩
    rw [q2, Array.getD_eq_getD_getElem?] at this
    rw [Array.getD_eq_getD_getElem?] at h1
    rw [Array.getElem?_eq_getElem (by rw [h.Lsize]; exact hlt)] at h1 this
    simp at h1 this
    rw [h1] at this; cases this

/-- Every order does it. -/
theorem any_ok (hF : PlanFacts P ops l) (Q : Exit → Go.Act → World → Prop) {env' : Env} {s' : St}
    (hQ : ∀ ρ' w' a', Goes ρ₀ s₀ w₀ ρ' s' w' → Rel P γ ρ' s' w' → ER γ Df n ρ' env' a' → Q .normal a' w') : ∀ (fuel : Nat) (rest : List Plan) (pend : List Pend) (env : Env) (s : St), Trace P γ n ops rest pend env s env' s' →
    ∀ (D : List Late) (L : Array Bool) (ρ : Rho) (a : Go.Act) (w : World) (done : Nat) (last : Option Nat), Inv P γ Df n ops l s₀ ρ₀ w₀ D rest pend env s L ρ a w done last → D.length + rest.length = fuel → wpAny P .any ops Q fuel L a w := by
  intro fuel
  induction fuel with
  | zero =>
    intro rest pend env s ht D L ρ a w done last h hlen
    have hD : D = [] := List.length_eq_zero_iff.1 (by omega)
    have hR : rest = [] := List.length_eq_zero_iff.1 (by omega)
    subst hD hR
    cases ht
    refine ⟨no_ready hF h, hQ ρ w a h.goes h.rel ⟨h.size, h.defers, fun t f g hs => ?_⟩⟩
    rcases h.slots t f g hs with ⟨d, h1, _⟩ | h1
    · cases h1
    · exact h1
  | succ fuel ih =>
    -- a late one, or a hard one
    have lateStep : ∀ {rest pend env s}, Trace P γ n ops rest pend env s env' s' → ∀ {D L ρ a w done last}, Inv P γ Df n ops l s₀ ρ₀ w₀ D rest pend env s L ρ a w done last → D.length + rest.length = fuel + 1 →
        ∀ d ∈ D, d.p.i ∈ Region.ready .any ops L → wpOp P ops Q d.p.i (wpAny P .any ops Q fuel (L.setIfInBounds d.p.i true)) a w := by
      intro rest pend env s ht D L ρ a w done last h hlen d hd hr
      obtain ⟨D₁, D₂, rfl⟩ := List.append_of_mem hd
      refine h.doLate hF hr _ Q fun ρ' a' w' h' => ?_
      refine ih rest pend env s ht _ _ _ _ _ _ _ h' ?_
      simp at hlen ⊢; omega
    intro rest
    induction rest with
    | nil =>
      intro pend env s ht D L ρ a w done last h hlen
      refine ⟨fun hnil => absurd hnil (exists_ready hF h (by omega)), fun i hi => ?_⟩
      obtain ⟨_, o, h2, _⟩ := mem_ready.1 hi
      obtain ⟨p, q1, rfl⟩ := hF.idx i (Array.getElem?_eq_some_iff.1 h2).1
      obtain ⟨hL0, _⟩ := ready_bef hF h q1 hi
      have hin : p ∈ D.map (·.p) := by
        apply Classical.byContradiction
        intro hn
        have := (h.Lspec p q1).2 ⟨hn, by simp⟩
        rw [hL0] at this; cases this
      obtain ⟨d, hd, rfl⟩ := List.mem_map.1 hin
      exact lateStep ht h hlen d hd hi
    | cons p ps ihr =>
      intro pend env s ht D L ρ a w done last h hlen
      have hlen' : ∀ d : Late, (d :: D).length + ps.length = fuel + 1 := fun d => by simp at hlen ⊢; omega
      have hfresh : s.get s.next = .dead := h.rel.fresh _ (Nat.le_refl _)
      cases ht with
      | skip _ _ _ _ _ g _ _ hw hg ht =>
        exact ihr _ _ _ ht _ _ _ _ _ _ _ (h.absorb hF hg ⟨p, undefI, env, false, 0⟩ rfl rfl h.rel h.goes h.late (.skip rfl rfl) hw (fun _ hr => by cases hr)) (hlen' _)
      | pure _ _ _ _ _ g _ _ fa v hc hw hg hx hf hv ht =>
        exact ihr _ _ _ ht _ _ _ _ _ _ _ (h.absorb hF hg ⟨p, v, env, true, 0⟩ rfl rfl h.rel h.goes h.late (.pure rfl hc fa hx hf hv) hw (fun hm => by rw [hc] at hm; cases hm)) (hlen' _)
      | read _ _ _ _ _ g _ _ fa v hc hw hg hx hf hv ht =>
        refine ihr _ _ _ ht _ _ _ _ _ _ _ (h.absorb hF hg ⟨p, v, env, true, 0⟩ rfl rfl h.rel h.goes ?_ (.read rfl hc fa hx hf List.mem_cons_self hv) hw (fun hm => by rw [hc] at hm; cases hm)) (hlen' _)
        intro d hd
        cases h.late d hd with
        | skip q1 q2 => exact .skip q1 q2
        | pure q1 q2 fa q3 q4 q5 => exact .pure q1 q2 fa q3 q4 q5
        | read q1 q2 fa q3 q4 q5 q6 => exact .read q1 q2 fa q3 q4 (List.mem_cons_of_mem _ q5) q6
        | made q1 q2 q3 q4 q5 q6 => exact .made q1 q2 q3 q4 q5 q6
      | made _ _ _ _ _ g _ _ v x hc hw hg hx hv ht =>
        obtain ⟨hrel', hnone⟩ := h.rel.ahead x
        have hgo : Goes ρ₀ s₀ w₀ ρ (s.new x) w := h.goes.trans ⟨Le.refl ρ, fun b hb hn => ⟨hn, by rw [get_new, if_neg (by omega)]⟩, by rw [next_new]; omega, fun _ _ _ => rfl, fun b q hb hd _ => ⟨b, q, hb, by rw [get_new, if_neg (fun e => by subst e; rw [hnone] at hb; cases hb)] at hd; exact hd, rfl⟩, Nat.le_refl _, rfl, rfl, rfl⟩
        refine ihr _ _ _ ht _ _ _ _ _ _ _ (h.absorb hF hg ⟨p, v, env, true, s.next⟩ rfl rfl hrel' hgo ?_ (.made rfl hc hnone (by rw [next_new]; exact Nat.lt_succ_self _) h.goes.next ?_) hw ?_) (hlen' _)
        · intro d hd
          cases h.late d hd with
          | skip q1 q2 => exact .skip q1 q2
          | pure q1 q2 fa q3 q4 q5 => exact .pure q1 q2 fa q3 q4 (q4.2 _ _ _ q5 _)
          | read q1 q2 fa q3 q4 q5 q6 => exact .read q1 q2 fa q3 q4 q5 (q4.2.1 _ _ _ x hfresh q6)
          | made q1 q2 q3 q4 q5 q6 =>
            refine .made q1 q2 q3 (by rw [next_new]; omega) q5 ?_
            rw [get_new, if_neg (by omega)]
            exact q6
        · rw [get_new, if_pos rfl]
          exact hv
        · intro _ _ d2 h2 c2 r2 e
          cases h.late d2 h2 with
          | skip q1 q2 => rw [q1] at r2; cases r2
          | pure q1 q2 => rw [q2] at c2; cases c2
          | read q1 q2 => rw [q2] at c2; cases c2
          | made q1 q2 q3 q4 q5 q6 =>
            have : s.next = d2.b := e
            omega
      | hard _ _ _ _ _ g _ _ v s1 hc hw hg hv hs ht' =>
        refine ⟨fun hnil => absurd hnil (exists_ready hF h (by omega)), fun i hi => ?_⟩
        obtain ⟨_, o, h2, _⟩ := mem_ready.1 hi
        obtain ⟨q, q1, rfl⟩ := hF.idx i (Array.getElem?_eq_some_iff.1 h2).1
        obtain ⟨hL0, hbef⟩ := ready_bef hF h q1 hi
        have hin : q ∈ D.map (·.p) ∨ q = p ∨ q ∈ ps := by
          apply Classical.byContradiction
          intro hn
          simp only [not_or] at hn
          have := (h.Lspec q q1).2 ⟨hn.1, fun hm => by rcases List.mem_cons.1 hm with e | hm; exact hn.2.1 e; exact hn.2.2 hm⟩
          rw [hL0] at this; cases this
        rcases hin with hin | rfl | hin
        · obtain ⟨d, hd, rfl⟩ := List.mem_map.1 hin
          exact lateStep (.hard p ps pend env s g _ _ v s1 hc hw hg hv hs ht') h hlen d hd hi
        · refine h.doHard hF hi hc hg hw hv hs _ Q fun ρ' a' w' h' => ?_
          exact ih ps _ _ _ ht' _ _ _ _ _ _ _ h' (by simp at hlen ⊢; omega)
        · exfalso
          have hh := h.hards.2
          rw [hc] at hh
          obtain ⟨j', m1, m2⟩ := hards_chain hh q hin
          have hrest : ∀ x ∈ p :: ps, L.getD x.i false = true → False := fun x hx hLx => ((h.Lspec x (h.subR x hx)).1 hLx).2 hx
          rcases m2 with rfl | ⟨x, m2, rfl⟩
          · exact hrest p List.mem_cons_self (hbef p (h.subR p List.mem_cons_self) m1)
          · exact hrest x (List.mem_cons_of_mem _ m2) (hbef x (h.subR x (List.mem_cons_of_mem _ m2)) m1)

theorem drawn_ok (hm : P.follows .mixedOrders = true) : DrawnOk P γ := by
  intro n ops f hf X rec hX hrec env s k v1 s1 h
  unfold drawnT at hf
  cases hl : planOf P ops.toList with
  | none => rw [hl] at hf; cases hf; cases h
  | some l =>
    rw [hl] at hf
    simp only at hf
    have hF := plan_facts (ops := ops) hl
    cases hp : plansT P n ops.toList l with
    | mk F =>
      rw [hp] at hf; cases hf
      obtain ⟨pend', env', s', q1, q2⟩ := trace_of (γ := γ) hX hrec l (fun p hp => (hF.op p hp).2) hp h
      refine ⟨env', s', q1, fun ρ w a hr hg hE Q hQ id => wp_region_any hm ?_⟩
      have hlen := hF.len
      refine any_ok (l := l) (s₀ := s) (ρ₀ := ρ) (w₀ := w) hF Q hQ ops.size l [] env s q2 [] (Array.replicate ops.size false) ρ a (drawn w) 0 none ?_ (by simp [hlen])
      have hrep : ∀ i, (Array.replicate ops.size false).getD i false = false := by
        intro i
        rw [Array.getD_eq_getD_getElem?, Array.getElem?_replicate]
        split <;> rfl
      refine ⟨hr.drawn, hg, Goes.drawn ρ s w, hE.size, hE.defers, by simp, ?_, ?_, fun d hd => (by cases hd), fun q hq => hq, by simpa using hF.nodup, hF.lin, fun q _ => (by simp), fun d hd => (by cases hd), hF.hards, fun j hj => (by cases hj),
        fun t f g hs => .inr (hE.slots t f g hs), fun d hd => (by cases hd), fun d hd => (by cases hd), fun d hd => (by cases hd), fun d hd => (by cases hd), fun d hd => (by cases hd), fun d hd => (by cases hd), fun d hd => (by cases hd)⟩
      · intro q hq
        rw [hrep]
        simp [hq]
      · intro q hq hL
        rw [hrep] at hL; cases hL
end Go.Eng

set_option linter.constructorNameAsVariable false
set_option linter.unusedVariables false
namespace Go.Eng
open Go.RowKit
variable {P : Program} {γ : Gam}

/-- Nothing is there. -/
def s₀ : St := { heap := .e, next := 0 }
theorem rel₀ (w : World) : Rel P γ (fun _ => none) s₀ w := ⟨fun b p h => (by cases h), fun b p h => (by cases h), fun b _ => rfl, fun b b' p p' h => (by cases h)⟩

theorem noExt_ok : ExtOk P γ noExt := fun _ _ _ _ _ h => (by cases h)

/-- What the interpreter computes, the program computes. -/
theorem calls_of_run (hm : P.follows .mixedOrders = true) {X : Ext} (hX : ExtOk P γ X) {m f : Nat} {args : List IV} {v : IV} {s1 : St} (h : (run P X m).f f args s₀ .ok = .ok v s1) {args' : List Value} (hv : VRs (fun _ => none) γ args args') (w : World) :
    Calls P f args'.toArray w fun e w' => ∃ v' ρ', e = .returned v' ∧ Below w.heap.size w w' ∧ VR ρ' γ v v' := by
  obtain ⟨v2, s2, h1, h2⟩ := (run_ok (drawn_ok hm) hX m).f f args s₀ .ok v s1 h
  cases h1
  refine (h2 _ w args' (rel₀ w) trivial hv).mono ?_
  rintro e w' ⟨v', ρ', rfl, g1, g2, g3⟩
  exact ⟨v', ρ', rfl, ⟨g1.os, g1.tape, g1.output, g1.size, fun k hk => g1.others k hk fun b p hb => (by cases hb)⟩, g3⟩

def isTrue : R → Bool
  | .ok (.bool true) _ => true
  | _ => false
/-- A law. -/
theorem law_of_run (hm : P.follows .mixedOrders = true) {X : Ext} (hX : ExtOk P γ X) {m f : Nat} {args : List IV} (h : isTrue ((run P X m).f f args s₀ .ok) = true) {args' : List Value} (hv : VRs (fun _ => none) γ args args') (w : World) :
    Calls P f args'.toArray w fun e w' => e = .returned (.bool true) ∧ Below w.heap.size w w' := by
  unfold isTrue at h
  split at h <;> (try (cases h; done))
  rename_i s1 hr
  refine (calls_of_run hm hX hr hv w).mono ?_
  rintro e w' ⟨v', ρ', rfl, g1, g2⟩
  cases g2
  exact ⟨rfl, g1⟩
end Go.Eng

set_option linter.constructorNameAsVariable false
set_option linter.unusedVariables false
namespace Go.Eng
open Go.RowKit
variable {P : Program} {γ : Gam}

theorem Rel.below {ρ : Rho} {s : St} {w w' : World} (h : Rel P γ ρ s w) (hb : Below w.heap.size w w') : Rel P γ ρ s w' :=
  ⟨fun b p h1 h2 => by rw [hb.block p.blk (h.bound b p h1).2]; exact h.live b p h1 h2, fun b p h1 => ⟨(h.bound b p h1).1, Nat.lt_of_lt_of_le (h.bound b p h1).2 hb.size⟩, h.fresh, h.apart⟩
theorem Goes.below {ρ : Rho} {s : St} {w w' : World} (hb : Below w.heap.size w w') : Goes ρ s w ρ s w' :=
  ⟨Le.refl ρ, fun _ _ h => ⟨h, rfl⟩, Nat.le_refl _, fun x hx _ => hb.block x hx, fun b p h hd _ => ⟨b, p, h, hd, rfl⟩, hb.size, hb.os, hb.tape, hb.output⟩

/-- Calls that are known: by the function's number, what is known of its value at arguments. -/
def memo (rows : Nat → List IV → Option IV) : Ext := ⟨fun f args s => match rows f args with
  | some v => some (.ok v s)
  | none => none⟩
theorem memo_ok {rows : Nat → List IV → Option IV} (h : ∀ f args v, rows f args = some v → ∀ (ρ : Rho) args', VRs ρ γ args args' → ∀ w, Calls P f args'.toArray w fun e w' => ∃ v', e = .returned v' ∧ Below w.heap.size w w' ∧ VR ρ γ v v') :
    ExtOk P γ (memo rows) := by
  intro f args s v s' hg ρ w args' hr _ hv
  unfold memo at hg
  simp only at hg
  cases hrow : rows f args with
  | none => rw [hrow] at hg; cases hg
  | some v0 =>
    rw [hrow] at hg
    cases hg
    refine (h f args v hrow ρ args' hv w).mono ?_
    rintro e w' ⟨v', rfl, q1, q2⟩
    exact ⟨v', ρ, rfl, Goes.below q1, hr.below q1, q2⟩
end Go.Eng
