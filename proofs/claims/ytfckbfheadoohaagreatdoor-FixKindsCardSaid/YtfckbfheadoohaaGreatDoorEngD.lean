/- A part of the proof: an interpreter of the program, shown right once, and the laws that it computes. -/
import Derived.Test.YtfckbfheadoohaaGreatDoorEng34
import Derived.Defers
set_option linter.constructorNameAsVariable false
set_option linter.unusedVariables false
set_option linter.unusedSimpArgs false
noncomputable section
namespace Go.Eng
variable {P : Program} {γ : Gam}

/- CALLS THAT ARE PUT OFF: one, by the last operation of a region, on the function's outermost level -/
inductive DefR where
  | no
  | mk (pre : List Oper) (o : Oper) (x : Operand)
def deferOp (o : Oper) : DefR := match o.guard with
  | some _ => .no
  | none => match o.dst with
    | some _ => .no
    | none => match o.op with
      | .defer c => match c.callee with
        | .value x => match c.args.toList with
          | [] => .mk [] o x
          | _ => .no
        | _ => .no
      | _ => .no
def deferCons (o : Oper) : DefR → DefR
  | .mk p q x => .mk (o :: p) q x
  | .no => .no
def lastDefer : List Oper → DefR
  | [] => .no
  | o :: l => match l with
    | [] => deferOp o
    | _ :: _ => deferCons o (lastDefer l)
inductive HeadD where
  | no
  | mk (ops : Array Oper) (pre : List Oper) (o : Oper) (x : Operand)
def headOps (ops : Array Oper) : DefR → HeadD
  | .mk p q x => .mk ops p q x
  | .no => .no
def headD : Code → HeadD
  | .region _ ops draw => match draw with
    | false => headOps ops (lastDefer ops.toList)
    | true => .no
  | _ => .no
def headSeq : Code → HeadD × Code
  | .seq x y => (headD x, y)
  | _ => (.no, .skip)
inductive CutD where
  | no
  | mk (a : Code) (ops : Array Oper) (pre : List Oper) (o : Oper) (x : Operand) (b : Code)
def cutHead (x b : Code) (r : CutD) : HeadD → CutD
  | .mk ops pre o t => .mk x ops pre o t b
  | .no => r
def cutSeq (x : Code) : CutD → CutD
  | .mk a ops pre o t b => .mk (.seq x a) ops pre o t b
  | .no => .no
def cutD : Code → CutD
  | .seq x y => cutHead x (headSeq y).2 (cutSeq x (cutD y)) (headSeq y).1
  | _ => .no

variable (P : Program) in
def defFn (g : Nat) : Bool := match funI P g with
  | some fn => match fn.body with
    | some _ => match fn.name == "runtime.NumGoroutine" with
      | true => false
      | false => true
    | none => false
  | none => false
variable (P : Program) in
def deferV (X : Ext) (r : Runs) (v : IV) (s : St) (k : St → R) : R := match v with
  | .fn f first cap => match f with
    | .func g => match defFn P g with
      | true => runF P X r g (first ++ cap) s fun _ s => k s
      | false => .no
    | _ => .no
  | _ => .no
variable (P : Program) in
def retD (X : Ext) (r : Runs) (v : IV) (res : Env → St → Option (List IV)) (k : KV) : KE := fun env s => deferV P X r v s fun s => resR k s (res env s)
inductive PartD where
  | no
  | mk (f : Ext → Runs → Env → St → KV → R)
variable (P : Program) in
def partD (n : Nat) (ops pre : List Oper) (x : Operand) (b : Code) (res : Env → St → Option (List IV)) : PartD := match opsT P n ops pre with
  | .mk O => match evT P n x with
    | .mk V => match codeT P n b with
      | .mk B => .mk fun X r env s k => O X r.f env s fun env s => B X r env s (retD P X r (V env) res k) (atEnd (retD P X r (V env) res k))
    | .no => .no
variable (P : Program) in
def fnD (fn : Func) (a : Code) (ops pre : List Oper) (x : Operand) (b : Code) : FB := match codeT P fn.ntmps a with
  | .mk A => match argsT fn.ntmps (fn.params.size + fn.nfree) 0 with
    | .mk ar => match resT P fn.ntmps fn.results.toList with
      | .mk res => match partD P fn.ntmps ops pre x b res with
        | .mk D => .mk fun X r args s k => withEnv (fun env => A X r env s (fun env s => D X r env s k) (atEnd fun env s => resR k s (res env s))) (ar args .e)
        | .no => noFB
      | .no => noFB
    | .no => noFB
variable (P : Program) in
def fnTD (f : Nat) : FB := match funI P f with
  | some fn => match fn.body with
    | some c => match cutD c with
      | .mk a ops pre _ x b => fnD P fn a ops.toList pre x b
      | .no => noFB
    | none => noFB
  | none => noFB
variable (P : Program) in
def runFD (X : Ext) (r : Runs) (f : Nat) (args : List IV) (s : St) (k : KV) : R := match fnTD P f with
  | .mk g => g X r args s k
variable (P : Program) in
/-- A function that puts off a call. -/
def deferX (fD m : Nat) (X : Ext) : Ext := ⟨fun f args s => match Nat.beq f fD with
  | true => some (runFD P X (run P X m) f args s .ok)
  | false => none⟩

theorem deferOp_inv {o o' : Oper} {pre : List Oper} {x : Operand} (h : deferOp o = .mk pre o' x) : pre = [] ∧ o' = o ∧ o.guard = none ∧ o.dst = none ∧ ∃ c, o.op = .defer c ∧ c.callee = .value x ∧ c.args = #[] := by
  unfold deferOp at h
  split at h <;> (try (cases h; done))
  rename_i hg
  split at h <;> (try (cases h; done))
  rename_i hd
  split at h <;> (try (cases h; done))
  rename_i c hc
  split at h <;> (try (cases h; done))
  rename_i y hy
  split at h <;> (try (cases h; done))
  rename_i ha
  cases h
  exact ⟨rfl, rfl, hg, hd, c, hc, hy, by apply Array.ext'; simpa using ha⟩
theorem lastDefer_inv : ∀ {l : List Oper} {pre : List Oper} {o : Oper} {x : Operand}, lastDefer l = .mk pre o x → l = pre ++ [o] ∧ o.guard = none ∧ o.dst = none ∧ ∃ c, o.op = .defer c ∧ c.callee = .value x ∧ c.args = #[]
  | [], pre, o, x, h => by cases h
  | [q], pre, o, x, h => by
    obtain ⟨rfl, rfl, h1⟩ := deferOp_inv (show deferOp q = .mk pre o x from h)
    exact ⟨rfl, h1⟩
  | q :: q2 :: l, pre, o, x, h => by
    have h : deferCons q (lastDefer (q2 :: l)) = .mk pre o x := h
    cases hl : lastDefer (q2 :: l) with
    | no => rw [hl] at h; cases h
    | mk p o2 x2 =>
      rw [hl] at h
      cases h
      obtain ⟨e, h1⟩ := lastDefer_inv hl
      exact ⟨by rw [e]; rfl, h1⟩
theorem headD_inv {c : Code} {ops : Array Oper} {pre : List Oper} {o : Oper} {x : Operand} (h : headD c = .mk ops pre o x) : (∃ id, c = .region id ops false) ∧ lastDefer ops.toList = .mk pre o x := by
  unfold headD at h
  split at h <;> (try (cases h; done))
  rename_i id ops' draw
  cases draw with
  | true => cases h
  | false =>
    simp only at h
    cases hl : lastDefer ops'.toList with
    | no => rw [hl] at h; cases h
    | mk p q y => rw [hl] at h; cases h; exact ⟨⟨id, rfl⟩, hl⟩
theorem headSeq_inv {c b : Code} {ops : Array Oper} {pre : List Oper} {o : Oper} {x : Operand} (h : headSeq c = (.mk ops pre o x, b)) : (∃ id, c = .seq (.region id ops false) b) ∧ lastDefer ops.toList = .mk pre o x := by
  unfold headSeq at h
  split at h
  · injection h with h1 h2
    subst h2
    obtain ⟨⟨id, rfl⟩, h3⟩ := headD_inv h1
    exact ⟨⟨id, rfl⟩, h3⟩
  · injection h with h1 h2
    cases h1

/-- The piece ahead of the region. -/
theorem cut_ok (hD : DrawnOk P γ) {n : Nat} {X : Ext} {r : Runs} (hX : ExtOk P γ X) (hr : RunsOk P γ r) : ∀ (c : Code) {a : Code} {ops : Array Oper} {pre : List Oper} {o : Oper} {x : Operand} {b : Code}, cutD c = .mk a ops pre o x b →
    lastDefer ops.toList = .mk pre o x ∧ ∀ {A}, codeT P n a = .mk A → ∀ env s kn kx v1 s1, A X r env s kn kx = .ok v1 s1 →
    ∃ e env' s', goOn kn kx e env' s' = .ok v1 s1 ∧ ∀ {Df : List Deferred} ρ w act, Rel P γ ρ s w → Glob P ρ → ER γ Df n ρ env act → ∀ Q : Exit → Go.Act → World → Prop,
      (∀ ρ' w' a', Goes ρ s w ρ' s' w' → Rel P γ ρ' s' w' → ER γ Df n ρ' env' a' → (e = .normal → ∀ id, (Code.seq (.region id ops false) b).wp P Q a' w') ∧ (e ≠ .normal → Q (exOf e) a' w')) → c.wp P Q act w := by
  intro c
  induction c with
  | seq c1 c2 ih1 ih2 =>
    intro a ops pre o x b h
    have h : cutHead c1 (headSeq c2).2 (cutSeq c1 (cutD c2)) (headSeq c2).1 = .mk a ops pre o x b := h
    cases hh : headSeq c2 with
    | mk hd b0 =>
      rw [hh] at h
      simp only at h
      cases hd with
      | mk ops0 pre0 o0 x0 =>
        cases h
        obtain ⟨⟨id, rfl⟩, h3⟩ := headSeq_inv hh
        refine ⟨h3, fun {A} hA env s kn kx v1 s1 hrun => ?_⟩
        obtain ⟨e, env', s', q1, q2⟩ := code_ok hD hX hr _ hA env s kn kx v1 s1 hrun
        refine ⟨e, env', s', q1, fun {Df} ρ w act hrel hg hE Q hQ => wp_seq (q2 ρ w act hrel hg hE _ ?_)⟩
        intro ρ' w' a' g1 g2 g3
        obtain ⟨m1, m2⟩ := hQ ρ' w' a' g1 g2 g3
        cases e with
        | normal => exact m1 rfl id
        | exit i => exact m2 (by intro e; cases e)
        | goto i => exact m2 (by intro e; cases e)
        | ret => exact m2 (by intro e; cases e)
      | no =>
        have h : cutSeq c1 (cutD c2) = .mk a ops pre o x b := h
        cases hc : cutD c2 with
        | no => rw [hc] at h; cases h
        | mk a2 ops2 pre2 o2 x2 b2 =>
          rw [hc] at h
          cases h
          obtain ⟨h3, h4⟩ := ih2 hc
          refine ⟨h3, fun {A} hA env s kn kx v1 s1 hrun => ?_⟩
          unfold codeT at hA
          cases e1 : codeT P n c1 with
          | mk f =>
            rw [e1] at hA
            simp only at hA
            cases e2 : codeT P n a2 with
            | mk g =>
              rw [e2] at hA; cases hA
              obtain ⟨e, env', s', q1, q2⟩ := code_ok hD hX hr _ e1 env s _ kx v1 s1 hrun
              cases e with
              | normal =>
                obtain ⟨e', env2, s2, q3, q4⟩ := h4 e2 env' s' kn kx v1 s1 q1
                refine ⟨e', env2, s2, q3, fun {Df} ρ w act hrel hg hE Q hQ => wp_seq (q2 ρ w act hrel hg hE _ ?_)⟩
                intro ρ' w' a' g1 g2 g3
                exact q4 ρ' w' a' g2 (hg.mono g1.le) g3 Q (fun ρ'' w'' a'' m1 m2 m3 => hQ ρ'' w'' a'' (g1.trans m1) m2 m3)
              | exit i => exact ⟨.exit i, env', s', q1, fun {Df} ρ w act hrel hg hE Q hQ => wp_seq (q2 ρ w act hrel hg hE _ fun ρ' w' a' g1 g2 g3 => (hQ ρ' w' a' g1 g2 g3).2 (by intro e; cases e))⟩
              | goto i => exact ⟨.goto i, env', s', q1, fun {Df} ρ w act hrel hg hE Q hQ => wp_seq (q2 ρ w act hrel hg hE _ fun ρ' w' a' g1 g2 g3 => (hQ ρ' w' a' g1 g2 g3).2 (by intro e; cases e))⟩
              | ret => exact ⟨.ret, env', s', q1, fun {Df} ρ w act hrel hg hE Q hQ => wp_seq (q2 ρ w act hrel hg hE _ fun ρ' w' a' g1 g2 g3 => (hQ ρ' w' a' g1 g2 g3).2 (by intro e; cases e))⟩
  | _ => intro a ops pre o x b h; cases h

/-- Operations, with others behind them. -/
theorem opsT_rest {n : Nat} {ops : Array Oper} {X : Ext} {rec : Rec} (hX : ExtOk P γ X) (hrec : RecOk P γ rec) : ∀ (l : List Oper) (j : Nat), (∀ i, i < l.length → l[i]? = ops[j + i]?) → ∀ {f}, opsT P n ops.toList l = .mk f → ∀ {env : Env} {s : St} {k : KE} {v1 : IV} {s1 : St},
    f X rec env s k = .ok v1 s1 → ∃ env' s', k env' s' = .ok v1 s1 ∧ ∀ {Df : List Deferred} ρ w a, Rel P γ ρ s w → Glob P ρ → ER γ Df n ρ env a → ∀ (rest : List Nat) (Q : Exit → Go.Act → World → Prop),
      (∀ ρ' w' a', Goes ρ s w ρ' s' w' → Rel P γ ρ' s' w' → ER γ Df n ρ' env' a' → wpOps P ops Q rest a' w') → wpOps P ops Q (List.range' j l.length ++ rest) a w
  | [], j, _, f, hf, env, s, k, v1, s1, h => by
    cases hf
    exact ⟨env, s, h, fun ρ w a hr hg hE rest Q hQ => hQ ρ w a (Goes.refl ρ s w) hr hE⟩
  | o :: l, j, hl, f, hf, env, s, k, v1, s1, h => by
    unfold opsT at hf
    cases h1 : opT P n ops.toList o with
    | mk fo =>
      rw [h1] at hf
      simp only at hf
      cases h2 : opsT P n ops.toList l with
      | mk fs =>
        rw [h2] at hf
        cases hf
        have ho : ops[j]? = some o := by simpa using (hl 0 (by simp)).symm
        obtain ⟨env', s', q1, q2⟩ := opT_ok ho h1 hX hrec h
        obtain ⟨env'', s'', q3, q4⟩ := opsT_rest hX hrec l (j + 1) (fun i hi => by have := hl (i + 1) (by simpa using hi); simpa [Nat.add_assoc, Nat.add_comm 1 i] using this) h2 q1
        refine ⟨env'', s'', q3, fun {Df} ρ w a hr hg hE rest Q hQ => ?_⟩
        show wpOps P ops Q (List.range' j (l.length + 1) ++ rest) a w
        rw [List.range'_succ, List.cons_append, wpOps_cons]
        refine q2 ρ w a hr hg hE _ Q ?_
        intro ρ' w' a' g1 g2 g3
        exact q4 ρ' w' a' g2 (hg.mono g1.le) g3 rest Q (fun ρ'' w'' a'' m1 m2 m3 => hQ ρ'' w'' a'' (g1.trans m1) m2 m3)

/-- The call that was put off. -/
theorem runF_okD (hD : DrawnOk P γ) {X : Ext} {r : Runs} (hX : ExtOk P γ X) (hr : RunsOk P γ r) {f : Nat} {args : List IV} {s : St} {k : KV} {v1 : IV} {s1 : St} (h : runF P X r f args s k = .ok v1 s1) :
    ∃ v s', k v s' = .ok v1 s1 ∧ ∀ ρ w args' u, Rel P γ ρ s w → Glob P ρ → VRs ρ γ args args' → CallsD P f args'.toArray u w fun e u' w' => u' = u ∧ Ret P γ ρ s w v s' e w' := by
  unfold runF at h
  split at h
  rename_i g hg
  unfold fnT at hg
  cases hf : funI P f with
  | none => rw [hf] at hg; cases hg; cases h
  | some fn =>
    rw [hf] at hg
    simp only at hg
    cases hb : fn.body with
    | none => rw [hb] at hg; cases hg; cases h
    | some c =>
      rw [hb] at hg
      simp only at hg
      unfold fnAt at hg
      cases hc : codeT P fn.ntmps c with
      | mk F =>
        rw [hc] at hg
        simp only at hg
        cases ha : argsT fn.ntmps (fn.params.size + fn.nfree) 0 with
        | no => rw [ha] at hg; cases hg; cases h
        | mk fa =>
          rw [ha] at hg
          simp only at hg
          cases hres : resT P fn.ntmps fn.results.toList with
          | no => rw [hres] at hg; cases hg; cases h
          | mk res =>
            rw [hres] at hg; cases hg
            dsimp only at h
            cases henv : fa args .e with
            | none => rw [henv] at h; cases h
            | some env =>
              rw [henv] at h
              change F X r env s (fun env s => resR k s (res env s)) (atEnd fun env s => resR k s (res env s)) = .ok v1 s1 at h
              obtain ⟨e, env', s', q1, q2⟩ := code_ok hD hX hr c hc env s _ _ v1 s1 h
              have hend : ∃ vs, res env' s' = some vs ∧ k (oneOr vs) s' = .ok v1 s1 ∧ (e = .normal ∨ e = .ret) := by
                have key : resR k s' (res env' s') = .ok v1 s1 → ∃ vs, res env' s' = some vs ∧ k (oneOr vs) s' = .ok v1 s1 := by
                  intro hk
                  unfold resR at hk
                  split at hk <;> (try (cases hk; done))
                  rename_i vs hvs
                  exact ⟨vs, hvs, hk⟩
                cases e with
                | normal => obtain ⟨vs, m1, m2⟩ := key q1; exact ⟨vs, m1, m2, .inl rfl⟩
                | ret => obtain ⟨vs, m1, m2⟩ := key q1; exact ⟨vs, m1, m2, .inr rfl⟩
                | exit i => cases q1
                | goto i => cases q1
              obtain ⟨vs, m1, m2, m3⟩ := hend
              refine ⟨oneOr vs, s', m2, fun ρ w args' u hrel hgl hv => ?_⟩
              refine callsD_of_wp (funI_eq hf) hb ?_
              refine q2 ρ w _ hrel hgl (enter_ER ha henv hv) _ ?_
              intro ρ' w' a' g1 g2 g3
              obtain ⟨v', p1, p2⟩ := results_ok g2 g3 hres m1
              rcases m3 with rfl | rfl
              · exact ⟨g3.defers, v', p1, v', ρ', rfl, g1, g2, p2⟩
              · exact ⟨g3.defers, v', p1, v', ρ', rfl, g1, g2, p2⟩

theorem defFn_run {g : Nat} (h : defFn P g = true) (args : Array Value) (w : World) : (callFunc g args).run P w = .ok (.enter g args) w := by
  unfold defFn at h
  split at h <;> (try (cases h; done))
  rename_i fn hf
  split at h <;> (try (cases h; done))
  rename_i c hb
  cases hnm : fn.name == "runtime.NumGoroutine" with
  | true => rw [hnm] at h; cases h
  | false =>
    unfold callFunc
    simp only [Sem.run_bind, run_program, Result.andThen_ok, funI_eq hf, hnm, Bool.false_eq_true, if_false, hb, Option.isNone_some, Sem.run_pure]

theorem deferV_inv {X : Ext} {r : Runs} {v : IV} {s : St} {k : St → R} {v1 : IV} {s1 : St} (h : deferV P X r v s k = .ok v1 s1) :
    ∃ g first cap, v = .fn (.func g) first cap ∧ defFn P g = true ∧ runF P X r g (first ++ cap) s (fun _ s => k s) = .ok v1 s1 := by
  unfold deferV at h
  split at h <;> (try (cases h; done))
  rename_i f first cap
  split at h <;> (try (cases h; done))
  rename_i g
  split at h <;> (try (cases h; done))
  rename_i hd
  exact ⟨g, first, cap, rfl, hd, h⟩

theorem resR_inv {k : KV} {s : St} {o : Option (List IV)} {v1 : IV} {s1 : St} (h : resR k s o = .ok v1 s1) : ∃ vs, o = some vs ∧ k (oneOr vs) s = .ok v1 s1 := by
  unfold resR at h
  split at h <;> (try (cases h; done))
  rename_i vs
  exact ⟨vs, rfl, h⟩

theorem runFD_ok (hD : DrawnOk P γ) {X : Ext} {r : Runs} (hX : ExtOk P γ X) (hr : RunsOk P γ r) : RecOk P γ (runFD P X r) := by
  intro f args s k v1 s1 h
  unfold runFD at h
  split at h
  rename_i g hg
  unfold fnTD at hg
  cases hf : funI P f with
  | none => rw [hf] at hg; cases hg; cases h
  | some fn =>
    rw [hf] at hg
    simp only at hg
    cases hb : fn.body with
    | none => rw [hb] at hg; cases hg; cases h
    | some c =>
      rw [hb] at hg
      simp only at hg
      cases hcut : cutD c with
      | no => rw [hcut] at hg; cases hg; cases h
      | mk a ops pre o x b =>
        rw [hcut] at hg
        simp only at hg
        unfold fnD at hg
        cases hc : codeT P fn.ntmps a with
        | mk A =>
          rw [hc] at hg
          simp only at hg
          cases ha : argsT fn.ntmps (fn.params.size + fn.nfree) 0 with
          | no => rw [ha] at hg; cases hg; cases h
          | mk fa =>
            rw [ha] at hg
            simp only at hg
            cases hres : resT P fn.ntmps fn.results.toList with
            | no => rw [hres] at hg; cases hg; cases h
            | mk res =>
              rw [hres] at hg
              simp only at hg
              cases hp : partD P fn.ntmps ops.toList pre x b res with
              | no => rw [hp] at hg; cases hg; cases h
              | mk Dp =>
                rw [hp] at hg; cases hg
                dsimp only at h
                cases henv : fa args .e with
                | none => rw [henv] at h; cases h
                | some env =>
                  rw [henv] at h
                  change A X r env s (fun env s => Dp X r env s k) (atEnd fun env s => resR k s (res env s)) = .ok v1 s1 at h
                  obtain ⟨hlast, hcutok⟩ := cut_ok hD hX hr (n := fn.ntmps) c hcut
                  obtain ⟨e, env', s', q1, q2⟩ := hcutok hc env s _ _ v1 s1 h
                  cases e with
                  | exit i => cases q1
                  | goto i => cases q1
                  | ret =>
                    obtain ⟨vs, m1, m2⟩ := resR_inv (show resR k s' (res env' s') = .ok v1 s1 from q1)
                    refine ⟨oneOr vs, s', m2, fun ρ w args' hrel hgl hv => ?_⟩
                    refine calls_of_wp (funI_eq hf) hb ?_
                    refine q2 ρ w _ hrel hgl (enter_ER ha henv hv) _ ?_
                    intro ρ' w' a' g1 g2 g3
                    obtain ⟨v', p1, p2⟩ := results_ok g2 g3 hres m1
                    exact ⟨fun e => (by cases e), fun _ => ⟨g3.defers, v', p1, v', ρ', rfl, g1, g2, p2⟩⟩
                  | normal =>
                    have q1 : Dp X r env' s' k = .ok v1 s1 := q1
                    unfold partD at hp
                    cases hO : opsT P fn.ntmps ops.toList pre with
                    | mk O =>
                      rw [hO] at hp
                      simp only at hp
                      cases hV : evT P fn.ntmps x with
                      | no => rw [hV] at hp; cases hp
                      | mk V =>
                        rw [hV] at hp
                        simp only at hp
                        cases hB : codeT P fn.ntmps b with
                        | mk B =>
                          rw [hB] at hp
                          cases hp
                          obtain ⟨hl, hgd, hdst, cl, hop, hcal, hargs⟩ := lastDefer_inv hlast
                          have hops : ∀ i, i < pre.length → pre[i]? = ops[0 + i]? := by
                            intro i hi
                            rw [Nat.zero_add, ← Array.getElem?_toList, hl, List.getElem?_append_left hi]
                          have hopl : ops[pre.length]? = some o := by
                            rw [← Array.getElem?_toList, hl]; simp
                          have hsize : ops.size = pre.length + 1 := by
                            rw [← Array.length_toList, hl]; simp
                          obtain ⟨env2, s2, q3, q4⟩ := opsT_rest hX hr.f pre 0 hops hO q1
                          obtain ⟨e2, env3, s3, q5, q6⟩ := code_ok hD hX hr b hB env2 s2 _ _ v1 s1 q3
                          have hret : retD P X r (V env2) res k env3 s3 = .ok v1 s1 ∧ (e2 = .normal ∨ e2 = .ret) := by
                            cases e2 with
                            | normal => exact ⟨q5, .inl rfl⟩
                            | ret => exact ⟨q5, .inr rfl⟩
                            | exit i => cases q5
                            | goto i => cases q5
                          obtain ⟨g0, first, cap, hVe, hdf, hrun⟩ := deferV_inv (show deferV P X r (V env2) s3 (fun s => resR k s (res env3 s)) = .ok v1 s1 from hret.1)
                          obtain ⟨v4, s4, q7, q8⟩ := runF_okD hD hX hr hrun
                          obtain ⟨vs, m1, m2⟩ := resR_inv q7
                          refine ⟨oneOr vs, s4, m2, fun ρ w args' hrel hgl hv => ?_⟩
                          refine calls_of_wp_defers (funI_eq hf) hb ?_
                          refine q2 ρ w _ hrel hgl (enter_ER ha henv hv) _ ?_
                          intro ρ1 w1 a1 g1 g2 g3
                          refine ⟨fun _ id => wp_seq (wp_region ?_), fun e => absurd rfl e⟩
                          have hg1 := hgl.mono g1.le
                          rw [hsize, List.range_eq_range', List.range'_concat]
                          refine q4 ρ1 w1 a1 g2 hg1 g3 _ _ ?_
                          intro ρ2 w2 a2 k1 k2 k3
                          have hg2 := hg1.mono k1.le
                          rw [show 0 + 1 * pre.length = pre.length from by omega, wpOps_cons]
                          have hVr := k3.op hg2 x V hV
                          rw [hVe] at hVr
                          generalize hev : a2.eval x = rv at hVr
                          cases hVr
                          rename_i first' cap' hy hfst hcap
                          have hd : (resolve a2.eval cl o.type).run P w2 = .ok { target := .fn (.func g0) cap', args := first' ++ #[] } w2 := by
                            unfold resolve; simp only [hcal, hev, hargs, Deferred.ofValue, Sem.run_pure, Array.map_empty]
                          have hexec : (execOp a2.eval o).run P w2 = .ok (.defer { target := .fn (.func g0) cap', args := first' ++ #[] }) w2 := by
                            simp only [execOp, hop, Sem.run_bind, hd, Result.andThen_ok, Sem.run_pure]
                          have hwant : Region.wanted o (yielded ops a2.tmps) = true := by
                            unfold Region.wanted; rw [hgd]
                          unfold wpOp
                          simp only [hopl, hwant, if_true]
                          refine .inl ?_
                          unfold Oper.wp
                          rw [hexec, Oper.upon_defer, hdst]
                          have hE' : ER γ [{ target := .fn (.func g0) cap', args := first' ++ #[] }] fn.ntmps ρ2 env2 { a2 with defers := { target := .fn (.func g0) cap', args := first' ++ #[] } :: a2.defers } := by
                            refine ⟨k3.size, by rw [k3.defers], k3.slots⟩
                          show b.wp P _ _ _
                          refine q6 ρ2 w2 _ k2 hg2 hE' _ ?_
                          intro ρ3 w3 a3 n1 n2 n3
                          have hleave : Leaves P fn a3.tmps (Ret P γ ρ s w (oneOr vs) s4) a3.defers .returning w3 := by
                            rw [n3.defers]
                            refine leaves_cons (by intro e; cases e) (f := g0) (args := ((first' ++ #[]) ++ cap')) ?_ ?_
                            · show (callFunc g0 ((first' ++ #[]) ++ cap')).run P w3 = _
                              exact defFn_run hdf _ _
                            · have hargs3 : VRs ρ3 γ (first ++ cap) (first'.toList ++ cap'.toList) := by
                                exact (hfst.mono n1.le).append (hcap.mono n1.le)
                              have := q8 ρ3 w3 _ .returning n2 (hg2.mono n1.le) hargs3
                              rw [show ((first' ++ #[]) ++ cap') = (first'.toList ++ cap'.toList).toArray from by apply Array.ext'; simp]
                              refine this.mono ?_
                              rintro e u' w' ⟨rfl, v', ρ', rfl, t1, t2, t3⟩
                              have hE4 : ER γ [{ target := .fn (.func g0) cap', args := first' ++ #[] }] fn.ntmps ρ' env3 a3 := n3.mono t1.le
                              obtain ⟨v5, p1, p2⟩ := results_ok t2 hE4 hres m1
                              exact ⟨v5, p1, v5, ρ', rfl, ((g1.trans k1).trans n1).trans t1, t2, p2⟩
                          rcases hret.2 with rfl | rfl
                          · exact hleave
                          · exact hleave

theorem deferX_ok (hm : P.follows .mixedOrders = true) {fD m : Nat} {X : Ext} (hX : ExtOk P γ X) : ExtOk P γ (deferX P fD m X) := by
  intro f args s v s' h
  unfold deferX at h
  simp only at h
  split at h <;> (try (cases h; done))
  injection h with h
  obtain ⟨v2, s2, h1, h2⟩ := runFD_ok (drawn_ok hm) hX (run_ok (drawn_ok hm) hX m) f args s .ok v s' h
  cases h1
  exact h2
end Go.Eng
