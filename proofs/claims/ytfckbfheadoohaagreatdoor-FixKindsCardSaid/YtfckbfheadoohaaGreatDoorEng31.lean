/- A part of the proof: an interpreter of the program, shown right once, and the laws that it computes. -/
import Derived.Test.YtfckbfheadoohaaGreatDoorEng29
set_option linter.constructorNameAsVariable false
set_option linter.unusedVariables false
set_option linter.unusedSimpArgs false
namespace Go.Eng
variable {P : Program} {γ : Gam} {Df : List Deferred}

theorem listEq_eq : ∀ {a b : List Nat}, listEq a b = true → a = b
  | [], [], _ => rfl
  | x :: a, y :: b, h => by
    unfold listEq at h
    cases hb : Nat.beq x y with
    | false => rw [hb] at h; cases h
    | true => rw [hb] at h; rw [Nat.eq_of_beq_eq_true hb, listEq_eq h]
  | [], _ :: _, h => by cases h
  | _ :: _, [], h => by cases h

mutual
theorem ieq_eq : ∀ {a b : IV}, ieq a b = true → a = b
  | .bool a, .bool b, h => by simp only [ieq] at h; rw [eq_of_beq h]
  | .int k a, .int k' b, h => by
    simp only [ieq, Bool.and_eq_true] at h
    have h2 := h.2; rw [eqI_eq] at h2
    rw [(kindEq_iff _ _).1 h.1, show a = b by simpa using h2]
  | .str a, .str b, h => by simp only [ieq] at h; rw [listEq_eq h]
  | .nilptr, .nilptr, _ => rfl
  | .ptr a b, .ptr c d, h => by simp only [ieq, Bool.and_eq_true] at h; rw [Nat.eq_of_beq_eq_true h.1, Nat.eq_of_beq_eq_true h.2]
  | .nilsl, .nilsl, _ => rfl
  | .sl a b c d x, .sl a' b' c' d' x', h => by
    simp only [ieq, Bool.and_eq_true] at h
    obtain ⟨⟨⟨⟨h1, h2⟩, h3⟩, h4⟩, h5⟩ := h
    rw [Nat.eq_of_beq_eq_true h1, Nat.eq_of_beq_eq_true h2, Nat.eq_of_beq_eq_true h3, Nat.eq_of_beq_eq_true h4, eq_of_beq h5]
  | .nilmap, .nilmap, _ => rfl
  | .map a, .map b, h => by simp only [ieq] at h; rw [Nat.eq_of_beq_eq_true h]
  | .nilfn, .nilfn, _ => rfl
  | .niliface, .niliface, _ => rfl
  | .iface t v, .iface t' v', h => by simp only [ieq, Bool.and_eq_true] at h; rw [Nat.eq_of_beq_eq_true h.1, ieq_eq h.2]
  | .agg l, .agg l', h => by simp only [ieq] at h; rw [ieqs_eq h]
  | .tup l, .tup l', h => by simp only [ieq] at h; rw [ieqs_eq h]
  | .sym a, .sym b, h => by simp only [ieq] at h; rw [Nat.eq_of_beq_eq_true h]
  | .sstr a, .sstr b, h => by simp only [ieq] at h; rw [listEq_eq h]
theorem ieqs_eq : ∀ {a b : List IV}, ieqs a b = true → a = b
  | [], [], _ => rfl
  | x :: a, y :: b, h => by simp only [ieqs, Bool.and_eq_true] at h; rw [ieq_eq h.1, ieqs_eq h.2]
  | [], _ :: _, h => by cases h
  | _ :: _, [], h => by cases h
end

theorem still_spec {s : St} {bef : Nat} : ∀ {l : List Pend}, stillOk s bef l = true → ∀ q ∈ l, bef.testBit q.i = false → sameR q.v (q.f noExt noRec q.env s .ok) = true
  | q :: l, h, q', hq, hb => by
    unfold stillOk at h
    cases hh : has bef q.i with
    | true =>
      rw [hh] at h
      rcases List.mem_cons.1 hq with rfl | hq
      · rw [has_eq, hb] at hh; cases hh
      · exact still_spec h q' hq hb
    | false =>
      rw [hh] at h
      simp only at h
      cases hs : sameR q.v (q.f noExt noRec q.env s .ok) with
      | false => rw [hs] at h; cases h
      | true =>
        rw [hs] at h
        rcases List.mem_cons.1 hq with rfl | hq
        · exact hs
        · exact still_spec h q' hq hb
theorem drop_spec {bef : Nat} : ∀ {l : List Pend} {q : Pend}, q ∈ l → bef.testBit q.i = false → q ∈ dropB bef l
  | q' :: l, q, hq, hb => by
    unfold dropB
    rcases List.mem_cons.1 hq with rfl | hq
    · rw [has_eq, hb]; exact List.mem_cons_self
    · cases has bef q'.i with
      | true => exact drop_spec hq hb
      | false => exact List.mem_cons_of_mem _ (drop_spec hq hb)

/-- What the ideal has done, and the machine not yet. -/
structure Late where
  p : Plan
  v : IV
  env : Env
  ran : Bool
  b : Nat

def Looks (ops : Array Oper) (o : Oper) (t : Nat) : Prop := .tmp t ∈ o.op.operands.toList ∨ ∃ j b oj, o.guard = some (j, b) ∧ ops[j]? = some oj ∧ oj.dst = some t

inductive LateOk (P : Program) (γ : Gam) (n : Nat) (s₀ : St) (ρ : Rho) (s : St) (pend : List Pend) (d : Late) : Prop where
  | skip (hr : d.ran = false) (hv : d.v = undefI)
  | pure (hr : d.ran = true) (hc : d.p.cls = .pure) (fa) (hx : execT P n d.p.o.op = .mk fa) (hf : PureA fa) (hv : fa noExt noRec d.env s .ok = .ok d.v s)
  | read (hr : d.ran = true) (hc : d.p.cls = .read) (fa) (hx : execT P n d.p.o.op = .mk fa) (hf : ReadA fa) (hp : ⟨d.p.i, fa, d.v, d.env⟩ ∈ pend) (hv : fa noExt noRec d.env s .ok = .ok d.v s)
  | made (hr : d.ran = true) (hc : d.p.cls = .made) (hb : ρ d.b = none) (hlt : d.b < s.next) (h0 : s₀.next ≤ d.b)
      (hv : ∀ (ρ : Rho) (w : World) (a : Go.Act), ρ d.b = none → OpsR P γ n ρ d.env a d.p.o.op.operands.toList →
        ∃ v' ob q j, (execOp a.eval d.p.o).run P w = .ok (.value v') (pushed (dr j w) ob) ∧ q.blk = w.heap.size ∧ OR P (ρ.with d.b q) γ q (s.get d.b) ob ∧ VR (ρ.with d.b q) γ d.v v')

structure Inv (P : Program) (γ : Gam) (Df : List Deferred) (n : Nat) (ops : Array Oper) (l : List Plan) (s₀ : St) (ρ₀ : Rho) (w₀ : World) (D : List Late) (rest : List Plan) (pend : List Pend) (env : Env) (s : St) (L : Array Bool)
    (ρ : Rho) (a : Go.Act) (w : World) (done : Nat) (last : Option Nat) : Prop where
  rel : Rel P γ ρ s w
  glob : Glob P ρ
  goes : Goes ρ₀ s₀ w₀ ρ s w
  size : a.tmps.size = n
  defers : a.defers = Df
  Lsize : L.size = ops.size
  Lspec : ∀ q ∈ l, L.getD q.i false = true ↔ q ∉ D.map (·.p) ∧ q ∉ rest
  closed : ∀ q ∈ l, L.getD q.i false = true → ∀ q' ∈ l, q.bef.testBit q'.i = true → L.getD q'.i false = true
  subD : ∀ d ∈ D, d.p ∈ l
  subR : ∀ q ∈ rest, q ∈ l
  nodup : (D.map (·.p) ++ rest).Nodup
  lin : LinFrom done rest
  doneR : ∀ q ∈ rest, done.testBit q.i = false
  dord : ∀ d ∈ D, ∀ q ∈ rest, d.p.bef.testBit q.i = false
  hards : HardsFrom last rest
  lastL : ∀ j, last = some j → ∃ h ∈ l, h.i = j ∧ h ∉ rest
  slots : ∀ t f g, slotT n t = .mk f g → (∃ d ∈ D, d.p.o.dst = some t) ∨ VR ρ γ (f env) (a.tmps.getD t undef)
  vals : ∀ d ∈ D, ∀ t f g, d.p.o.dst = some t → slotT n t = .mk f g → f env = d.v
  dslots : ∀ d ∈ D, ∀ t f g, Looks ops d.p.o t → slotT n t = .mk f g → (∃ d2 ∈ D, d2.p.o.dst = some t ∧ d.p.bef.testBit d2.p.i = true) ∨ VR ρ γ (f d.env) (a.tmps.getD t undef)
  dvals : ∀ d ∈ D, ∀ d2 ∈ D, ∀ t f g, d.p.bef.testBit d2.p.i = true → d2.p.o.dst = some t → slotT n t = .mk f g → f d.env = d2.v
  late : ∀ d ∈ D, LateOk P γ n s₀ ρ s pend d
  want : ∀ d ∈ D, WantG γ n ops d.p.o d.env d.ran
  outs : ∀ d ∈ D, ∃ g, outT n d.p.o.dst = .mk g
  blocks : ∀ d ∈ D, ∀ d2 ∈ D, d.p.cls = .made → d2.p.cls = .made → d.ran = true → d2.ran = true → d.p ≠ d2.p → d.b ≠ d2.b

variable {n : Nat} {ops : Array Oper} {l : List Plan} {s₀ : St} {ρ₀ : Rho} {w₀ : World}

theorem looks_spec (hF : PlanFacts P ops l) {p q : Plan} {t : Nat} (hp : p ∈ l) (hl : Looks ops p.o t) (hq : q ∈ l) (hd : q.o.dst = some t) : p.bef.testBit q.i = true ∨ q.bef.testBit p.i = true := by
  rcases hl with hl | ⟨j, b, oj, h1, h2, h3⟩
  · exact hF.look p hp t hl q hq hd
  · left
    have hj : j < ops.size := (Array.getElem?_eq_some_iff.1 h2).1
    obtain ⟨r, hr1, hr2⟩ := hF.idx j hj
    have hro := (hF.op r hr1).1
    rw [hr2, h2] at hro
    have : r.o.dst = some t := by rw [← Option.some.inj hro]; exact h3
    have := hF.once q hq r hr1 t hd this
    subst this
    rw [hr2]
    exact hF.guard p hp j b h1

theorem put_other {g : IV → Env → Env} {dst : Option Nat} {t : Nat} {f g' } {v : IV} {env : Env} (hg : outT n dst = .mk g) (ht : slotT n t = .mk f g') (hne : dst ≠ some t) : f (g v env) = f env := by
  rcases outT_inv hg with ⟨rfl, rfl⟩ | ⟨d, f', rfl, hs⟩
  · rfl
  · rw [slot_put hs ht, if_neg (fun e => hne (by rw [e]))]
theorem put_same {g : IV → Env → Env} {t : Nat} {f g' } {v : IV} {env : Env} (hg : outT n (some t) = .mk g) (ht : slotT n t = .mk f g') : f (g v env) = v := by
  rcases outT_inv hg with ⟨h, _⟩ | ⟨d, f', h, hs⟩
  · cases h
  · cases h; rw [slot_put hs ht, if_pos rfl]

/-- The ideal goes on by an operation that may come late. -/
theorem Inv.absorb (hF : PlanFacts P ops l) {D : List Late} {p : Plan} {ps : List Plan} {pend pend' : List Pend} {env : Env} {s s' : St} {L : Array Bool} {ρ : Rho} {a : Go.Act} {w : World} {done : Nat} {last : Option Nat}
    (h : Inv P γ Df n ops l s₀ ρ₀ w₀ D (p :: ps) pend env s L ρ a w done last) {g : IV → Env → Env} (hg : outT n p.o.dst = .mk g) (d : Late) (hd1 : d.p = p) (hd2 : d.env = env)
    (hrel : Rel P γ ρ s' w) (hgoes : Goes ρ₀ s₀ w₀ ρ s' w) (hlate : ∀ d' ∈ D, LateOk P γ n s₀ ρ s' pend' d') (hd : LateOk P γ n s₀ ρ s' pend' d) (hw : WantG γ n ops p.o env d.ran)
    (hblk : d.p.cls = .made → d.ran = true → ∀ d2 ∈ D, d2.p.cls = .made → d2.ran = true → d.b ≠ d2.b) :
    Inv P γ Df n ops l s₀ ρ₀ w₀ (d :: D) ps pend' (g d.v env) s' L ρ a w (done ||| 2 ^ p.i) (match p.cls with | .hard => some p.i | _ => last) := by
  subst hd1
  have hpl := h.subR d.p List.mem_cons_self
  have hnd := h.nodup
  have hperm : (D.map (·.p) ++ d.p :: ps).Perm ((d :: D).map (·.p) ++ ps) := by
    rw [List.map_cons, List.cons_append]; exact List.perm_middle
  have hnd' := hperm.nodup_iff.1 hnd
  have hnotD : d.p ∉ D.map (·.p) := fun hm => by
    have := (List.nodup_cons.1 (by rw [List.map_cons, List.cons_append] at hnd'; exact hnd')).1
    exact this (List.mem_append_left _ hm)
  have hnotR : d.p ∉ ps := fun hm => by
    have := (List.nodup_cons.1 (by rw [List.map_cons, List.cons_append] at hnd'; exact hnd')).1
    exact this (List.mem_append_right _ hm)
  have hself : d.p.bef.testBit d.p.i = false := by
    cases hb : d.p.bef.testBit d.p.i with
    | false => rfl
    | true => have := ready_bits h.lin.1 _ hb; rw [h.doneR d.p List.mem_cons_self] at this; cases this
  have hne : ∀ d2 ∈ D, ∀ t, d2.p.o.dst = some t → d.p.o.dst ≠ some t := fun d2 h2 t ht he => by
    have := hF.once d2.p (h.subD d2 h2) d.p hpl t ht he
    exact hnotD (this ▸ List.mem_map_of_mem h2)
  refine ⟨hrel, h.glob, hgoes, h.size, h.defers, h.Lsize, ?_, h.closed, ?_, fun q hq => h.subR q (List.mem_cons_of_mem _ hq), hnd', h.lin.2, ?_, ?_, ?_, ?_, ?_, ?_, ?_, ?_, ?_, ?_, ?_, ?_⟩
  · intro q hq
    rw [h.Lspec q hq]
    simp only [List.map_cons, List.mem_cons, not_or]
    constructor
    · rintro ⟨h1, h2, h3⟩; exact ⟨⟨h2, h1⟩, h3⟩
    · rintro ⟨⟨h2, h1⟩, h3⟩; exact ⟨h1, h2, h3⟩
  · intro d2 h2
    rcases List.mem_cons.1 h2 with rfl | h2
    · exact hpl
    · exact h.subD d2 h2
  · intro q hq
    rw [Nat.testBit_or, h.doneR q (List.mem_cons_of_mem _ hq), Nat.testBit_two_pow, Bool.false_or]
    refine decide_eq_false fun e => ?_
    have := hF.inj d.p hpl q (h.subR q (List.mem_cons_of_mem _ hq)) e
    exact hnotR (this ▸ hq)
  · intro d2 h2 q hq
    rcases List.mem_cons.1 h2 with rfl | h2
    · cases hb : d2.p.bef.testBit q.i with
      | false => rfl
      | true => have := ready_bits h.lin.1 _ hb; rw [h.doneR q (List.mem_cons_of_mem _ hq)] at this; cases this
    · exact h.dord d2 h2 q (List.mem_cons_of_mem _ hq)
  · exact h.hards.2
  · intro j hj
    have hold : last = some j → ∃ x ∈ l, x.i = j ∧ x ∉ ps := fun hj => by
      obtain ⟨x, h1, h2, h3⟩ := h.lastL j hj
      exact ⟨x, h1, h2, fun hm => h3 (List.mem_cons_of_mem _ hm)⟩
    cases hcc : d.p.cls <;> rw [hcc] at hj <;> first
      | exact hold hj
      | (cases hj; exact ⟨d.p, hpl, rfl, hnotR⟩)
  · intro t f g' ht
    by_cases e : d.p.o.dst = some t
    · exact .inl ⟨d, List.mem_cons_self, e⟩
    · rw [put_other hg ht e]
      rcases h.slots t f g' ht with ⟨d2, h1, h2⟩ | h1
      · exact .inl ⟨d2, List.mem_cons_of_mem _ h1, h2⟩
      · exact .inr h1
  · intro d2 h2 t f g' ht hs
    rcases List.mem_cons.1 h2 with rfl | h2
    · rw [ht] at hg; exact put_same hg hs
    · rw [put_other hg hs (hne d2 h2 t ht)]
      exact h.vals d2 h2 t f g' ht hs
  · intro d2 h2 t f g' hl hs
    rcases List.mem_cons.1 h2 with rfl | h2
    · rw [hd2]
      rcases h.slots t f g' hs with ⟨d3, h3, h4⟩ | h3
      · left
        refine ⟨d3, List.mem_cons_of_mem _ h3, h4, ?_⟩
        rcases looks_spec hF hpl hl (h.subD d3 h3) h4 with h5 | h5
        · exact h5
        · rw [h.dord d3 h3 d2.p List.mem_cons_self] at h5; cases h5
      · exact .inr h3
    · rcases h.dslots d2 h2 t f g' hl hs with ⟨d3, h3, h4⟩ | h3
      · exact .inl ⟨d3, List.mem_cons_of_mem _ h3, h4⟩
      · exact .inr h3
  · intro d2 h2 d3 h3 t f g' hb hdst hs
    rcases List.mem_cons.1 h2 with e2 | k2
    · rcases List.mem_cons.1 h3 with e3 | k3
      · rw [e2, e3, hself] at hb; cases hb
      · rw [e2, hd2]; exact h.vals d3 k3 t f g' hdst hs
    · rcases List.mem_cons.1 h3 with e3 | k3
      · rw [e3, h.dord d2 k2 d.p List.mem_cons_self] at hb; cases hb
      · exact h.dvals d2 k2 d3 k3 t f g' hb hdst hs
  · intro d2 h2
    rcases List.mem_cons.1 h2 with rfl | h2
    · exact hd
    · exact hlate d2 h2
  · intro d2 h2
    rcases List.mem_cons.1 h2 with rfl | h2
    · rw [hd2]; exact hw
    · exact h.want d2 h2
  · intro d2 h2
    rcases List.mem_cons.1 h2 with rfl | h2
    · exact ⟨g, hg⟩
    · exact h.outs d2 h2
  · intro d2 h2 d3 h3 c2 c3 r2 r3 hne'
    rcases List.mem_cons.1 h2 with e2 | k2
    · rcases List.mem_cons.1 h3 with e3 | k3
      · exact absurd (by rw [e2, e3]) hne'
      · subst e2; exact hblk c2 r2 d3 k3 c3 r3
    · rcases List.mem_cons.1 h3 with e3 | k3
      · subst e3; exact (hblk c3 r3 d2 k2 c2 r2).symm
      · exact h.blocks d2 k2 d3 k3 c2 c3 r2 r3 hne'
end Go.Eng
