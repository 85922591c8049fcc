/- A part of the proof: an interpreter of the program, shown right once, and the laws that it computes. -/
import Derived.Test.YtpanfhfcpniodaaGreatDoorEng31
import Derived.Still
set_option linter.constructorNameAsVariable false
set_option linter.unusedVariables false
set_option linter.unusedSimpArgs false
namespace Go.Eng
variable {P : Program} {γ : Gam}
variable {n : Nat} {ops : Array Oper} {l : List Plan} {s₀ : St} {ρ₀ : Rho} {w₀ : World}

theorem getD_set (L : Array Bool) (i j : Nat) (hi : i < L.size) (b : Bool) : (L.setIfInBounds i true).getD j b = if j = i then true else L.getD j b := by
  rw [Array.getD_eq_getD_getElem?, Array.getD_eq_getD_getElem?, Array.getElem?_setIfInBounds]
  by_cases h : i = j
  · subst h; simp [hi]
  · simp [h, Ne.symm h]

/-- What is ready has all that must stand ahead of it done. -/
theorem ready_bef (hF : PlanFacts P ops l) {D rest pend env s L ρ a w done last} (h : Inv P γ n ops l s₀ ρ₀ w₀ D rest pend env s L ρ a w done last) {p : Plan} (hp : p ∈ l) (hr : p.i ∈ Region.ready .any ops L) :
    L.getD p.i false = false ∧ ∀ q ∈ l, p.bef.testBit q.i = true → L.getD q.i false = true := by
  obtain ⟨h1, o, h2, h3⟩ := mem_ready.1 hr
  have hop := (hF.op p hp).1
  rw [h2] at hop
  have ho := Option.some.inj hop
  have hlt : p.i < L.size := by rw [h.Lsize]; exact (Array.getElem?_eq_some_iff.1 h2).1
  refine ⟨?_, fun q hq hb => ?_⟩
  · rw [Array.getD_eq_getD_getElem?] at h1 ⊢
    rw [Array.getElem?_eq_getElem hlt] at h1 ⊢
    exact h1
  · obtain ⟨e, he, hbe, h4⟩ := hF.bef p hp q.i hb
    have h5 := h3 e (by rw [ho]; exact Array.mem_toList_iff.1 he) hbe
    rcases h4 with h4 | ⟨r, hr1, hr2, hr3⟩
    · rw [h4]; exact h5
    · exact h.closed r hr1 (by rw [hr2]; exact h5) q hq hr3

/-- What is listed from here on. -/
theorem closed_set (hF : PlanFacts P ops l) {L : Array Bool} {p : Plan} (hp : p ∈ l) (hlt : p.i < L.size) (hc : ∀ q ∈ l, L.getD q.i false = true → ∀ q' ∈ l, q.bef.testBit q'.i = true → L.getD q'.i false = true)
    (hb : ∀ q ∈ l, p.bef.testBit q.i = true → L.getD q.i false = true) : ∀ q ∈ l, (L.setIfInBounds p.i true).getD q.i false = true → ∀ q' ∈ l, q.bef.testBit q'.i = true → (L.setIfInBounds p.i true).getD q'.i false = true := by
  intro q hq h1 q' hq' h2
  rw [getD_set _ _ _ hlt] at h1 ⊢
  split
  · rfl
  · by_cases e : q.i = p.i
    · have := hF.inj q hq p hp e
      subst this
      exact hb q' hq' h2
    · rw [if_neg e] at h1
      exact hc q hq h1 q' hq' h2

theorem Lspec_set (hF : PlanFacts P ops l) {L : Array Bool} {p : Plan} {A B : List Plan} (hp : p ∈ l) (hlt : p.i < L.size) (hL : ∀ q ∈ l, L.getD q.i false = true ↔ q ∉ A) (hB : ∀ q, q ∈ A ↔ q = p ∨ q ∈ B) (hpB : p ∉ B) :
    ∀ q ∈ l, (L.setIfInBounds p.i true).getD q.i false = true ↔ q ∉ B := by
  intro q hq
  rw [getD_set _ _ _ hlt]
  by_cases e : q.i = p.i
  · have := hF.inj q hq p hp e
    subst this
    simp [hpB]
  · rw [if_neg e, hL q hq, hB]
    have : q ≠ p := fun h => e (by rw [h])
    simp [this]

/-- An operation's operands, when all ahead of it is done. -/
theorem ops_of {n : Nat} {ρ : Rho} {env : Env} {a : Go.Act} {o : Oper} (hg : Glob P ρ) (hs : ∀ t f g, Looks ops o t → slotT n t = .mk f g → VR ρ γ (f env) (a.tmps.getD t undef)) : OpsR P γ n ρ env a o.op.operands.toList := by
  intro x hx
  cases x with
  | tmp t => exact ev_tmp fun f g h => hs t f g (.inl hx) h
  | const v => exact ev_const
  | global g => exact ev_global hg
  | func f => exact ev_func

/-- One that comes late is done. -/
theorem Inv.doLate (hF : PlanFacts P ops l) {D₁ D₂ : List Late} {d : Late} {rest pend env s L ρ a w done last} (h : Inv P γ n ops l s₀ ρ₀ w₀ (D₁ ++ d :: D₂) rest pend env s L ρ a w done last) (hr : d.p.i ∈ Region.ready .any ops L)
    (K : Go.Act → World → Prop) (Q : Exit → Go.Act → World → Prop) (hK : ∀ ρ' a' w', Inv P γ n ops l s₀ ρ₀ w₀ (D₁ ++ D₂) rest pend env s (L.setIfInBounds d.p.i true) ρ' a' w' done last → K a' w') :
    wpOp P ops Q d.p.i K a w := by
  have hdD : d ∈ D₁ ++ d :: D₂ := by simp
  have hpl := h.subD d hdD
  obtain ⟨hL0, hbef⟩ := ready_bef hF h hpl hr
  have hop := (hF.op d.p hpl).1
  have hlt : d.p.i < L.size := by rw [h.Lsize]; exact (Array.getElem?_eq_some_iff.1 hop).1
  have hsub : ∀ x, x ∈ D₁ ++ D₂ → x ∈ D₁ ++ d :: D₂ := fun x hx => by
    rcases List.mem_append.1 hx with hx | hx <;> simp [hx]
  have hcase : ∀ x, x ∈ D₁ ++ d :: D₂ → x = d ∨ x ∈ D₁ ++ D₂ := fun x hx => by
    rcases List.mem_append.1 hx with hx | hx
    · exact .inr (List.mem_append_left _ hx)
    · rcases List.mem_cons.1 hx with hx | hx
      · exact .inl hx
      · exact .inr (List.mem_append_right _ hx)
  have hperm : ((D₁ ++ d :: D₂).map (·.p) ++ rest).Perm (d.p :: ((D₁ ++ D₂).map (·.p) ++ rest)) := by
    simp only [List.map_append, List.map_cons, List.append_assoc, List.cons_append]
    exact List.perm_middle
  have hnd := List.nodup_cons.1 (hperm.nodup_iff.1 h.nodup)
  have hnot : ∀ x ∈ D₁ ++ D₂, x.p ≠ d.p := fun x hx e => hnd.1 (List.mem_append_left _ (e ▸ List.mem_map_of_mem hx))
  -- what is done is in none of both
  have hdone : ∀ x ∈ D₁ ++ d :: D₂, L.getD x.p.i false = true → False := fun x hx hLx =>
    ((h.Lspec x.p (h.subD x hx)).1 hLx).1 (List.mem_map_of_mem hx)
  have hlook : ∀ t f g, Looks ops d.p.o t → slotT n t = .mk f g → VR ρ γ (f d.env) (a.tmps.getD t undef) := by
    intro t f g hlk hs
    rcases h.dslots d hdD t f g hlk hs with ⟨d2, h1, h2, h3⟩ | h1
    · exact absurd (hbef d2.p (h.subD d2 h1) h3) (fun hh => hdone d2 h1 hh)
    · exact h1
  have hops : OpsR P γ n ρ d.env a d.p.o.op.operands.toList := ops_of h.glob hlook
  have hwant := h.want d hdD ρ a h.size (fun j b t f g hg ⟨oj, h1, h2⟩ hs => hlook t f g (.inr ⟨j, b, oj, hg, h1, h2⟩) hs)
  obtain ⟨g, hout⟩ := h.outs d hdD
  -- it has been done
  have fin : ∀ ρ' w' v', Le ρ ρ' → Rel P γ ρ' s w' → Goes ρ₀ s₀ w₀ ρ' s w' → VR ρ' γ d.v v' → (∀ d2 ∈ D₁ ++ D₂, LateOk P γ n s₀ ρ' s pend d2) → K (a.put d.p.o.dst v') w' := by
    intro ρ' w' v' hle hrel hgoes hv hlate
    have hsame : ∀ t f g', slotT n t = .mk f g' → d.p.o.dst ≠ some t → (a.put d.p.o.dst v').tmps.getD t undef = a.tmps.getD t undef := by
      intro t f g' hs hne
      rcases outT_inv hout with ⟨h1, _⟩ | ⟨t', f', h1, h2⟩
      · rw [h1]; rfl
      · rw [h1, getD_put (by rw [h.size]; exact slot_lt h2), if_neg (fun e => hne (by rw [h1, e]))]
    have hnew : ∀ t f g', slotT n t = .mk f g' → d.p.o.dst = some t → (a.put d.p.o.dst v').tmps.getD t undef = v' := by
      intro t f g' hs he
      rw [he, getD_put (by rw [h.size]; exact slot_lt hs), if_pos rfl]
    refine hK ρ' _ w' ⟨hrel, h.glob.mono hle, hgoes, ?_, ?_, by rw [Array.size_setIfInBounds]; exact h.Lsize, ?_, closed_set hF hpl hlt h.closed hbef, fun x hx => h.subD x (hsub x hx), h.subR, hnd.2, h.lin, h.doneR,
      fun x hx => h.dord x (hsub x hx), h.hards, h.lastL, ?_, fun x hx => h.vals x (hsub x hx), ?_, fun x hx y hy => h.dvals x (hsub x hx) y (hsub y hy), hlate, fun x hx => h.want x (hsub x hx), fun x hx => h.outs x (hsub x hx),
      fun x hx y hy => h.blocks x (hsub x hx) y (hsub y hy)⟩
    · cases d.p.o.dst <;> simp [Act.put, h.size]
    · cases d.p.o.dst <;> simp [Act.put, h.defers]
    · have := Lspec_set hF (A := (D₁ ++ d :: D₂).map (·.p) ++ rest) (B := (D₁ ++ D₂).map (·.p) ++ rest) hpl hlt (fun q hq => by rw [h.Lspec q hq]; simp only [List.mem_append, not_or])
        (fun q => by rw [hperm.mem_iff, List.mem_cons]) hnd.1
      intro q hq
      rw [this q hq]
      simp only [List.mem_append, not_or]
    · intro t f g' hs
      by_cases e : d.p.o.dst = some t
      · right
        rw [hnew t f g' hs e, h.vals d hdD t f g' e hs]
        exact hv
      · rw [hsame t f g' hs e]
        rcases h.slots t f g' hs with ⟨d2, h1, h2⟩ | h1
        · rcases hcase d2 h1 with rfl | h1
          · exact absurd h2 e
          · exact .inl ⟨d2, h1, h2⟩
        · exact .inr (h1.mono hle)
    · intro d2 h2 t f g' hlk hs
      by_cases e : d.p.o.dst = some t
      · right
        rw [hnew t f g' hs e]
        rcases looks_spec hF (h.subD d2 (hsub d2 h2)) hlk hpl e with h3 | h3
        · rw [h.dvals d2 (hsub d2 h2) d hdD t f g' h3 e hs]; exact hv
        · exact absurd (hbef d2.p (h.subD d2 (hsub d2 h2)) h3) (fun hh => hdone d2 (hsub d2 h2) hh)
      · rw [hsame t f g' hs e]
        rcases h.dslots d2 (hsub d2 h2) t f g' hlk hs with ⟨d3, h3, h4, h5⟩ | h3
        · rcases hcase d3 h3 with rfl | h3
          · exact absurd h4 e
          · exact .inl ⟨d3, h3, h4, h5⟩
        · exact .inr (h3.mono hle)
  unfold wpOp
  simp only [hop, hwant]
  have keep : ∀ ρ', (∀ b, b < s.next → ρ b = none → b ≠ d.b ∨ d.p.cls ≠ .made ∨ d.ran = false → ρ' b = none) → ∀ d2 ∈ D₁ ++ D₂, LateOk P γ n s₀ ρ' s pend d2 := by
    intro ρ' hk d2 h2
    cases h.late d2 (hsub d2 h2) with
    | skip q1 q2 => exact .skip q1 q2
    | pure q1 q2 fa q3 q4 q5 => exact .pure q1 q2 fa q3 q4 q5
    | read q1 q2 fa q3 q4 q5 q6 => exact .read q1 q2 fa q3 q4 q5 q6
    | made q1 q2 q3 q4 q5 q6 =>
      refine .made q1 q2 (hk d2.b q4 q3 ?_) q4 q5 q6
      by_cases hm : d.p.cls = .made
      · cases hrn : d.ran with
        | false => exact .inr (.inr rfl)
        | true => exact .inl (h.blocks d2 (hsub d2 h2) d hdD q2 hm q1 hrn (hnot d2 h2))
      · exact .inr (.inl hm)
  cases h.late d hdD with
  | skip q1 q2 =>
    rw [q1]
    simp only [Bool.false_eq_true, if_false]
    exact fin ρ w undef (Le.refl ρ) h.rel h.goes (by rw [q2]; exact .tup [] #[] .nil) (keep ρ fun b _ hb _ => hb)
  | pure q1 q2 fa q3 q4 q5 =>
    rw [q1]
    simp only [if_true]
    obtain ⟨v, s', m1, m2⟩ := exec_ok (P := P) (γ := γ) (n := n) d.p.o.op fa q3 noExt noRec (fun _ _ _ _ _ h => by cases h) (fun _ _ _ _ _ _ h => by cases h) d.env s .ok d.v s q5
    cases m1
    refine .inl ((m2 ρ w a d.p.o rfl h.rel h.glob hops).wp ?_)
    intro ρ' w' v' g1 g2 g3
    exact fin ρ' w' v' g1.le g2 (h.goes.trans g1) g3 (keep ρ' fun b hb hn _ => (g1.unborn b hb hn).1)
  | read q1 q2 fa q3 q4 q5 q6 =>
    rw [q1]
    simp only [if_true]
    obtain ⟨v, s', m1, m2⟩ := exec_ok (P := P) (γ := γ) (n := n) d.p.o.op fa q3 noExt noRec (fun _ _ _ _ _ h => by cases h) (fun _ _ _ _ _ _ h => by cases h) d.env s .ok d.v s q6
    cases m1
    refine .inl ((m2 ρ w a d.p.o rfl h.rel h.glob hops).wp ?_)
    intro ρ' w' v' g1 g2 g3
    exact fin ρ' w' v' g1.le g2 (h.goes.trans g1) g3 (keep ρ' fun b hb hn _ => (g1.unborn b hb hn).1)
  | made q1 q2 q3 q4 q5 q6 =>
    rw [q1]
    simp only [if_true]
    obtain ⟨v', ob, q, j, m1, m2, m3, m4⟩ := q6 ρ w a q3 hops
    have m2 : q.blk = (dr j w).heap.size := by rw [dr_size]; exact m2
    refine .inl ?_
    unfold Oper.wp
    rw [m1]
    refine fin (ρ.with d.b q) _ v' (le_with_none q3) ((h.rel.dr j).born q3 q4 m2 m3) ((h.goes.dr j).born' q3 q5 m2 ob) m4 (keep _ ?_)
    intro b hb hn hne
    rcases hne with hne | hne | hne
    · rw [Rho.with_other _ _ hne]; exact hn
    · exact absurd q2 hne
    · rw [q1] at hne; cases hne
end Go.Eng
