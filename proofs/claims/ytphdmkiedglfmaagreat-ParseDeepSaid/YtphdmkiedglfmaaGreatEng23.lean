/- A part of the proof: an interpreter of the program, shown right once, and the laws that it computes. -/
import Derived.Test.YtphdmkiedglfmaaGreatEng22
import Derived.Lib.Bytealg
import Derived.Lib.MakeNoZero
set_option linter.constructorNameAsVariable false
set_option linter.unusedVariables false
set_option linter.unusedSimpArgs false
namespace Go.Eng
variable {P : Program} {γ : Gam}

theorem indexOf_eq (c : Nat) (hc : c < 256) : ∀ (l : List UInt8) (i : Nat), indexOf c (l.map UInt8.toNat) i = if Lib.indexByte l c.toUInt8 == -1 then -1 else Lib.indexByte l c.toUInt8 + i
  | [], i => rfl
  | b :: l, i => by
    have ih := indexOf_eq c hc l (i + 1)
    have hge := Lib.indexByte_ge l c.toUInt8
    have hbc : (b == c.toUInt8) = Nat.beq b.toNat c := by
      rw [Bool.eq_iff_iff]
      constructor
      · intro h
        have h1 : b = c.toUInt8 := by simpa using h
        subst h1
        have h2 : c.toUInt8.toNat = c := by simp; omega
        rw [h2]; exact Nat.beq_refl c
      · intro h
        have h1 := Nat.eq_of_beq_eq_true h
        have : b = c.toUInt8 := by
          apply UInt8.toNat_inj.1
          rw [h1]; simp; omega
        simpa using this
    simp only [List.map_cons, indexOf, Lib.indexByte, hbc]
    cases Nat.beq b.toNat c with
    | true => simp
    | false =>
      simp only [Bool.false_eq_true, if_false]
      rw [ih]
      by_cases h1 : Lib.indexByte l c.toUInt8 = -1
      · simp [h1]
      · have : ¬ (Lib.indexByte l c.toUInt8 + 1 = -1) := by omega
        simp [h1, this]; omega

theorem find_noEscape {fn : Func} (hn : fn.name = "internal/abi.NoEscape") (ho : fn.origin = "") : Extern.findNext fn = none ∧ Extern.find fn = some Extern.AbiNoEscape.same := by
  constructor
  · unfold Extern.findNext; rw [hn, ho]; kernel_rfl
  · unfold Extern.find; rw [hn, ho]; kernel_rfl
theorem find_indexByte {fn : Func} (hn : fn.name = "internal/bytealg.IndexByteString") (ho : fn.origin = "") : Extern.findNext fn = none ∧ Extern.find fn = some Extern.BytealgIndexByte.indexByte := by
  constructor
  · unfold Extern.findNext; rw [hn, ho]; kernel_rfl
  · unfold Extern.find; rw [hn, ho]; kernel_rfl

theorem find_count {fn : Func} (hn : fn.name = "internal/bytealg.CountString") (ho : fn.origin = "") : Extern.findNext fn = none ∧ Extern.find fn = some Extern.BytealgCount.count := by
  constructor
  · unfold Extern.findNext; rw [hn, ho]; kernel_rfl
  · unfold Extern.find; rw [hn, ho]; kernel_rfl
theorem countOf_eq (c : Nat) (hc : c < 256) : ∀ (l : List UInt8), countOf c (l.map UInt8.toNat) = Lib.countByte l c.toUInt8
  | [] => rfl
  | b :: l => by
    have ih := countOf_eq c hc l
    have hbc : (b == c.toUInt8) = Nat.beq b.toNat c := by
      rw [Bool.eq_iff_iff]
      constructor
      · intro h
        have h1 : b = c.toUInt8 := by simpa using h
        subst h1
        have h2 : c.toUInt8.toNat = c := by simp; omega
        rw [h2]; exact Nat.beq_refl c
      · intro h
        have h1 := Nat.eq_of_beq_eq_true h
        have : b = c.toUInt8 := by
          apply UInt8.toNat_inj.1
          rw [h1]; simp; omega
        simpa using this
    unfold Lib.countByte at ih ⊢
    rw [List.count_cons, hbc, ← ih]
    simp only [List.map_cons, countOf]
    cases Nat.beq b.toNat c <;> rfl
theorem find_makeNoZero {fn : Func} (hn : fn.name = "internal/bytealg.MakeNoZero") (ho : fn.origin = "") : Extern.findNext fn = none ∧ Extern.find fn = some (Extern.BytealgMakeNoZero.makeNoZero fn.params fn.resultTypes) := by
  constructor
  · unfold Extern.findNext; rw [hn, ho]; kernel_rfl
  · unfold Extern.find; rw [hn, ho]; kernel_rfl

theorem noZero_sim {ρ : Rho} {s s' : St} {w : World} {ps rs : Array TypeId} {args : List IV} {args' : List Value} {v : IV} (hr : Rel P γ ρ s w) (hx : VRs ρ γ args args') (h : noZeroAt P rs args s = .ok v s') :
    Yields P γ ρ s w (Extern.BytealgMakeNoZero.makeNoZero ps rs args'.toArray) v s' := by
  unfold noZeroAt at h
  split at h <;> (try (cases h; done))
  rename_i x
  split at h <;> (try (cases h; done))
  rename_i n hn
  split at h <;> (try (cases h; done))
  rename_i t ht
  split at h <;> (try (cases h; done))
  rename_i e he
  unfold roomFor at h
  split at h <;> (try (cases h; done))
  rename_i hb
  split at h <;> (try (cases h; done))
  rename_i hle
  have hle' := Nat.le_of_ble_eq_true hle
  injection h with hv hs
  subst hv hs
  obtain ⟨hu, hz⟩ := isByte_eq hb
  have hus : P.underlying t = some (.slice e) := by
    unfold sliceT at he
    split at he <;> (try (cases he; done))
    rename_i hd
    cases he
    exact undI_eq hd
  have hrs : rs = #[t] := by apply Array.ext'; simpa using ht
  subst hrs
  cases hx with
  | cons _ x' _ _ hx hl =>
    cases hl
    have hx' : x' = .int .i64 n := by
      unfold IV.nat64 at hn
      split at hn <;> (try (cases hn; done))
      split at hn <;> (try (cases hn; done))
      split at hn <;> (try (cases hn; done))
      cases hn
      cases hx
      rfl
    subst hx'
    obtain ⟨cs, h1, h2, _⟩ := Lib.run_makeNoZero (P := P) w ps t e hus n hle'
    have hd := hr.drawn.drawn
    let p : Pl := ⟨w.heap.size, 0, cs.size * 1, 1⟩
    obtain ⟨g1, g2⟩ := hd.new (p := p) rfl (x := .cells .e 0 e 0 0) (o := .cells cs e) (by
      refine .cells _ _ _ _ _ _ _ (by show 0 + 0 ≤ cs.size * 1; omega) (by show cs.size * 1 ≤ cs.size; omega) (by intro j hj; omega) (by intro j _ _ hj; simp at hj) (fun _ => ⟨.inl rfl, fun _ => rfl⟩) (fun _ => rfl) hz)
    refine ⟨_, _, _, h1, ((Goes.drawn ρ s w).trans (Goes.drawn ρ s _)).trans g2, g1, ?_⟩
    exact .sli s.next 0 n n cs.size 0 p (Rho.with_self _ _ _) (Nat.le_refl _) h2 (.inl rfl) (by show 0 + cs.size * 1 ≤ cs.size * 1; omega)

theorem extern_yields {ρ : Rho} {s s' : St} {f : Nat} {fn : Func} {args : Array Value} {w : World} {e : Array Value → Sem Value} {v : IV} (hf : P.funcs[f]? = some fn) (hb : fn.body = none) (hnm : (fn.name == "runtime.NumGoroutine") = false)
    (hn : Extern.findNext fn = none) (he : Extern.find fn = some e) (hr : Yields P γ ρ s w (e args) v s') : Gives P γ ρ s w (callFunc f args) v s' := by
  obtain ⟨v', w', ρ', h1, h2, h3, h4⟩ := hr
  refine .inl ⟨v', w', ρ', ?_, h2, h3, h4⟩
  unfold callFunc
  simp only [Sem.run_bind, run_program, Result.andThen_ok, hf, hnm, Bool.false_eq_true, if_false, hb, Option.isNone_none, if_true, run_mark, hn, he, h1, Sem.run_pure]

theorem extern_run {f : Nat} {fn : Func} {args : Array Value} {w : World} {e : Array Value → Sem Value} {v : Value} (hf : P.funcs[f]? = some fn) (hb : fn.body = none) (hnm : (fn.name == "runtime.NumGoroutine") = false)
    (hn : Extern.findNext fn = none) (he : Extern.find fn = some e) (hr : (e args).run P w = .ok v w) : (callFunc f args).run P w = .ok (.value v) w := by
  unfold callFunc
  simp only [Sem.run_bind, run_program, Result.andThen_ok, hf, hnm, Bool.false_eq_true, if_false, hb, Option.isNone_none, if_true, run_mark, hn, he, hr, Sem.run_pure]

theorem extern_sim {ρ : Rho} {s s' : St} {w : World} {f : Nat} {fn : Func} {args : List IV} {args' : List Value} {v : IV} (hr : Rel P γ ρ s w) (hf : P.funcs[f]? = some fn) (hb : fn.body = none) (hx : VRs ρ γ args args')
    (h : externI P fn args s = .ok v s') : Gives P γ ρ s w (callFunc f args'.toArray) v s' := by
  unfold externI at h
  cases ho : fn.origin == "" with
  | false => rw [ho] at h; cases h
  | true =>
    rw [ho] at h
    have ho' : fn.origin = "" := by simpa using ho
    simp only at h
    cases hmz : fn.name == "internal/bytealg.MakeNoZero" with
    | true =>
      rw [hmz] at h
      have hn' : fn.name = "internal/bytealg.MakeNoZero" := by simpa using hmz
      obtain ⟨h1, h2⟩ := find_makeNoZero hn' ho'
      exact extern_yields hf hb (by rw [hn']; rfl) h1 h2 (noZero_sim hr hx h)
    | false =>
    rw [hmz] at h
    simp only at h
    unfold externAt at h
    cases hn : fn.name == "internal/abi.NoEscape" with
    | true =>
      rw [hn] at h
      have hn' : fn.name = "internal/abi.NoEscape" := by simpa using hn
      obtain ⟨h1, h2⟩ := find_noEscape hn' ho'
      simp only at h
      split at h <;> (try (cases h; done))
      rename_i x
      cases h
      cases hx with
      | cons _ x' _ _ hx hl =>
        cases hl
        exact .inl ⟨x', w, ρ, extern_run hf hb (by rw [hn']; rfl) h1 h2 rfl, Goes.refl ρ s w, hr, hx⟩
    | false =>
      rw [hn] at h
      simp only at h
      cases hn2 : fn.name == "internal/bytealg.IndexByteString" with
      | false =>
        rw [hn2] at h
        simp only at h
        cases hn3 : fn.name == "internal/bytealg.CountString" with
        | false => rw [hn3] at h; cases h
        | true =>
          rw [hn3] at h
          have hn' : fn.name = "internal/bytealg.CountString" := by simpa using hn3
          obtain ⟨h1, h2⟩ := find_count hn' ho'
          simp only at h
          split at h <;> (try (cases h; done))
          rename_i l c
          split at h <;> (try (cases h; done))
          rename_i hc
          have hc' : c < 256 := by simpa [Nat.blt_eq] using hc
          cases h
          cases hx with
          | cons _ x' _ _ hx hl =>
            cases hl with
            | cons _ y' _ _ hy hl =>
              cases hl
              cases hx with
              | str b _ hb2 =>
                subst hb2
                cases hy
                refine .inl ⟨_, w, ρ, extern_run hf hb (by rw [hn']; rfl) h1 h2 (Lib.run_countString b c w), Goes.refl ρ s w, hr, ?_⟩
                rw [countOf_eq c hc']
                exact .int _ _
      | true =>
        rw [hn2] at h
        have hn' : fn.name = "internal/bytealg.IndexByteString" := by simpa using hn2
        obtain ⟨h1, h2⟩ := find_indexByte hn' ho'
        simp only at h
        split at h <;> (try (cases h; done))
        rename_i l c
        split at h <;> (try (cases h; done))
        rename_i hc
        have hc' : c < 256 := by simpa [Nat.blt_eq] using hc
        cases h
        cases hx with
        | cons _ x' _ _ hx hl =>
          cases hl with
          | cons _ y' _ _ hy hl =>
            cases hl
            cases hx with
            | str b _ hb2 =>
              subst hb2
              cases hy
              refine .inl ⟨_, w, ρ, extern_run hf hb (by rw [hn']; rfl) h1 h2 (Lib.run_indexByteString b c w), Goes.refl ρ s w, hr, ?_⟩
              rw [indexOf_eq c hc']
              have e : (Int.ofNat c).toNat.toUInt8 = c.toUInt8 := rfl
              have : (if Lib.indexByte b.data.toList c.toUInt8 == -1 then -1 else Lib.indexByte b.data.toList c.toUInt8 + ((0 : Nat) : Int)) = Lib.indexByte b.data.toList c.toUInt8 := by
                by_cases h1 : Lib.indexByte b.data.toList c.toUInt8 = -1
                · simp [h1]
                · simp [h1]
              rw [this]
              exact .int _ _

/-- A call of a function by its number. -/
def CallOk (P : Program) (γ : Gam) (m : Array Value → Sem Next) (g : Ext → Rec → List IV → St → KV → R) : Prop := ∀ X rec, ExtOk P γ X → RecOk P γ rec → ∀ args s k v1 s1, g X rec args s k = .ok v1 s1 →
  ∃ v s', k v s' = .ok v1 s1 ∧ ∀ (ρ : Rho) (w : World) args', Rel P γ ρ s w → Glob P ρ → VRs ρ γ args args' → Gives P γ ρ s w (m args'.toArray) v s'

theorem funT_ok (f : Nat) {g} (hg : funT P f = .mk g) : CallOk P γ (callFunc f) g := by
  intro X rec hX hrec args s k v1 s1 h
  unfold funT at hg
  cases hf : funI P f with
  | none => rw [hf] at hg; cases hg; cases h
  | some fn =>
    rw [hf] at hg
    simp only at hg
    have hf' := funI_eq hf
    cases hb : fn.body with
    | some c =>
      rw [hb] at hg
      simp only at hg
      cases hnm : fn.name == "runtime.NumGoroutine" with
      | true => rw [hnm] at hg; cases hg; cases h
      | false =>
        rw [hnm] at hg
        cases hg
        have hrun : ∀ (args : Array Value) (w : World), (callFunc f args).run P w = .ok (.enter f args) w := by
          intro args w
          unfold callFunc
          simp only [Sem.run_bind, run_program, Result.andThen_ok, hf', hnm, Bool.false_eq_true, if_false, hb, Option.isNone_some, Sem.run_pure]
        unfold callX at h
        dsimp only at h
        cases hx : X.get f args s with
        | some r =>
          rw [hx] at h
          simp only at h
          obtain ⟨v, s', rfl, h2⟩ := bind_ok h
          exact ⟨v, s', h2, fun ρ w args' hr hgl hv => .inr (.inr ⟨f, _, w, hrun _ _, hX f args s v s' hx ρ w args' hr hgl hv⟩)⟩
        | none =>
          rw [hx] at h
          simp only at h
          obtain ⟨v, s', h1, h2⟩ := hrec f args s k v1 s1 h
          exact ⟨v, s', h1, fun ρ w args' hr hgl hv => .inr (.inr ⟨f, _, w, hrun _ _, h2 ρ w args' hr hgl hv⟩)⟩
    | none =>
      rw [hb] at hg
      cases hg
      obtain ⟨v, s', h1, h2⟩ := bind_ok h
      exact ⟨v, s', h2, fun ρ w args' hr hgl hv => extern_sim hr hf' hb hv h1⟩

theorem callF_ok (f : Nat) : CallOk P γ (callFunc f) (fun X rec args s k => callF P X rec f args s k) := by
  intro X rec hX hrec args s k v1 s1 h
  unfold callF at h
  split at h
  rename_i g hg
  exact funT_ok f hg X rec hX hrec args s k v1 s1 h

theorem receiver_run {xt : Nat} {v : Value} {p : Bool} {nm : Option String} {w : World} (h : if p then ptrT P xt = true else plainT P xt = true) : (receiverAt xt (.val v) p nm).run P w = .ok v w := by
  cases p with
  | true =>
    simp only [if_true] at h
    unfold ptrT at h
    split at h <;> (try (cases h; done))
    rename_i e hu
    unfold receiverAt
    simp only [Sem.run_bind, run_underlying (undI_eq hu), Result.andThen_ok, Place.get, Sem.run_pure]
  | false =>
    simp only [Bool.false_eq_true, if_false] at h
    unfold plainT at h
    split at h <;> first
      | (rename_i hu
         unfold receiverAt
         simp only [Sem.run_bind, run_underlying (undI_eq hu), Result.andThen_ok, Place.get, Sem.run_pure]; done)
      | (cases h; done)

theorem method_run {t f : Nat} {name : String} {v : Value} {w : World} (h : methodOf P t name = some f) : (method (P.types.size + Made.depth) t v name).run P w = .ok (f, v) w := by
  obtain ⟨d, hd⟩ : ∃ d, P.types.size + Made.depth = d + 1 := ⟨_, rfl⟩
  rw [hd]
  unfold methodOf at h
  cases hi : infoI P t with
  | none => rw [hi] at h; cases h
  | some i =>
    rw [hi] at h
    simp only at h
    split at h <;> (try (cases h; done))
    rename_i m0 m1 f' p hfind
    have hp : f' = f ∧ (if p then ptrT P t = true else plainT P t = true) := by
      cases p with
      | true =>
        simp only at h
        cases hq : ptrT P t with
        | true => rw [hq] at h; cases h; exact ⟨rfl, rfl⟩
        | false => rw [hq] at h; cases h
      | false =>
        simp only at h
        cases hq : plainT P t with
        | true => rw [hq] at h; cases h; exact ⟨rfl, rfl⟩
        | false => rw [hq] at h; cases h
    obtain ⟨rfl, hp⟩ := hp
    unfold method
    simp only [Sem.run_bind, run_typeInfo (infoI_eq hi), Result.andThen_ok, hfind, follow, Sem.run_pure, receiver_run hp]

theorem callMethod_run {t f : Nat} {name : String} {v : Value} {args : Array Value} {w : World} (h : methodOf P t name = some f) :
    (callMethod (.iface t v) name args).run P w = (callFunc f (#[v] ++ args)).run P w := by
  unfold callMethod
  simp only [Sem.run_bind, run_program, Result.andThen_ok, method_run h]

/-- What runs alike gives alike. -/
theorem Gives.congr {ρ : Rho} {s s' : St} {w : World} {m m' : Sem Next} {v : IV} (h : Gives P γ ρ s w m v s') (e : m'.run P w = m.run P w) : Gives P γ ρ s w m' v s' := by
  unfold Gives at h ⊢; rw [e]; exact h

theorem callM_ok (t : Nat) (name : String) (v0 : IV) : ∀ X rec, ExtOk P γ X → RecOk P γ rec → ∀ args s k v1 s1, callM P X rec t name v0 args s k = .ok v1 s1 →
    ∃ v s', k v s' = .ok v1 s1 ∧ ∀ (ρ : Rho) (w : World) v0' args', Rel P γ ρ s w → Glob P ρ → VR ρ γ v0 v0' → VRs ρ γ args args' → Gives P γ ρ s w (callMethod (.iface t v0') name args'.toArray) v s' := by
  intro X rec hX hrec args s k v1 s1 h
  unfold callM at h
  split at h <;> (try (cases h; done))
  rename_i f hf
  obtain ⟨v, s', h1, h2⟩ := callF_ok f X rec hX hrec _ s k v1 s1 h
  refine ⟨v, s', h1, fun ρ w v0' args' hr hg hv hs => ?_⟩
  refine (h2 ρ w (v0' :: args') hr hg (.cons _ _ _ _ hv hs)).congr ?_
  rw [callMethod_run hf]
  have e : #[v0'] ++ args'.toArray = (v0' :: args').toArray := by apply Array.ext'; simp
  rw [e]

theorem head_args (x : Value) (l : Array Value) : (#[x] ++ l)[0]? = some x := by rw [Array.getElem?_append_left (show 0 < (#[x] : Array Value).size from Nat.zero_lt_one)]; rfl
theorem tail_args (x : Value) (l : Array Value) : (#[x] ++ l).extract 1 (#[x] ++ l).size = l := by
  obtain ⟨l⟩ := l
  apply Array.ext'
  simp [List.extract_eq_take_drop]
theorem invoke_method {name : String} {cap args : Array Value} {r : Value} {w : World} (h : args[0]? = some r) : (invoke (.fn (.method name) cap) args).run P w = (callMethod r name (args.extract 1 args.size)).run P w := by
  unfold invoke; simp only [h]

section ops
variable {n : Nat}

theorem callee_mem (c : Call) : ∀ x ∈ c.args.toList, x ∈ (Op.call c).operands.toList := by
  intro x hx
  simp only [Op.operands, Call.operands, Array.toList_append, List.mem_append]
  exact .inr hx

theorem run_resolve {c : Call} {a : Go.Act} {o : Oper} {d : Deferred} (w : World) (ho : o.op = .call c) (hd : (resolve a.eval c o.type).run P w = .ok d w) : (execOp a.eval o).run P w = (invoke d.target d.args).run P w := by
  simp only [execOp, ho, Sem.run_bind, hd, Result.andThen_ok]

theorem callI_ok (c : Call) (r : Operand) (name : String) (hc : c.callee = .invoke r name) : ActOk P γ n (.call c) (xCallI P n r name c.args.toList) := by
  unfold xCallI
  split <;> try exact actOk_no
  rename_i as has
  split <;> try exact actOk_no
  rename_i f hf
  intro fa hfa X rec hX hrec env s k v1 s1 h
  cases hfa
  dsimp only at h
  unfold callI at h
  split at h <;> (try (cases h; done))
  rename_i t v0 hv0
  obtain ⟨v, s', h1, h2⟩ := callM_ok t name v0 X rec hX hrec _ s k v1 s1 h
  refine ⟨v, s', h1, fun ρ w a o ho hr hg hops => ?_⟩
  have hrv := hops r (by simp [Op.operands, Call.operands, hc]) f hf
  rw [hv0] at hrv
  have hargs := OpsR.evs (fun x hx => hops x (callee_mem c x hx)) has
  generalize hev : a.eval r = rv at hrv
  cases hrv
  rename_i v0' hv0'
  have hd : (resolve a.eval c o.type).run P w = .ok { target := .fn (.method name) #[], args := #[a.eval r] ++ c.args.map a.eval } w := by
    unfold resolve; simp only [hc, Sem.run_pure]
  refine (h2 ρ w v0' _ hr hg hv0' hargs).congr ?_
  rw [run_resolve w ho hd, hev]
  show (invoke (.fn (.method name) #[]) (#[Value.iface t v0'] ++ c.args.map a.eval)).run P w = _
  rw [invoke_method (head_args _ _), tail_args]
  rw [show c.args.map a.eval = (c.args.toList.map a.eval).toArray from by apply Array.ext'; simp]

theorem callV_ok (c : Call) (f0 : Operand) (hc : c.callee = .value f0) : ActOk P γ n (.call c) (xCallV P n f0 c.args.toList) := by
  unfold xCallV
  split <;> try exact actOk_no
  rename_i as has
  have hargs : ∀ {ρ : Rho} {env : Env} {a : Go.Act}, OpsR P γ n ρ env a (Op.call c).operands.toList → VRs ρ γ (as env) (c.args.toList.map a.eval) :=
    fun hops => OpsR.evs (fun x hx => hops x (callee_mem c x hx)) has
  have hmem : f0 ∈ (Op.call c).operands.toList := by simp [Op.operands, Call.operands, hc]
  have hd : ∀ (a : Go.Act) (o : Oper) (w : World) (fn : Fn) (first captured : Array Value), a.eval f0 = .func fn first captured → (resolve a.eval c o.type).run P w = .ok { target := .fn fn captured, args := first ++ c.args.map a.eval } w := by
    intro a o w fn first captured he
    unfold resolve; simp only [hc, he, Deferred.ofValue, Sem.run_pure]
  split
  · rename_i f
    split
    rename_i g hg
    intro fa hfa X rec hX hrec env s k v1 s1 h
    cases hfa
    dsimp only at h
    obtain ⟨v, s', h1, h2⟩ := funT_ok f hg X rec hX hrec _ s k v1 s1 h
    refine ⟨v, s', h1, fun ρ w a o ho hr hgl hops => ?_⟩
    refine (h2 ρ w _ hr hgl (hargs hops)).congr ?_
    rw [run_resolve w ho (hd a o w (.func f) #[] #[] rfl)]
    show (callFunc f ((#[] ++ c.args.map a.eval) ++ #[])).run P w = _
    congr 2
    apply Array.ext'; simp
  · split <;> try exact actOk_no
    rename_i fe hfe
    intro fa hfa X rec hX hrec env s k v1 s1 h
    cases hfa
    dsimp only at h
    unfold callV at h
    split at h <;> (try (cases h; done))
    rename_i fn first cap hfv
    split at h <;> (try (cases h; done))
    · rename_i f
      obtain ⟨v, s', h1, h2⟩ := callF_ok f X rec hX hrec _ s k v1 s1 h
      refine ⟨v, s', h1, fun ρ w a o ho hr hgl hops => ?_⟩
      have hfr := hops f0 hmem fe hfe
      rw [hfv] at hfr
      generalize hev : a.eval f0 = rv at hfr
      cases hfr
      rename_i first' cap' hy hfst hcap
      refine (h2 ρ w _ hr hgl ((hfst.append (hargs hops)).append hcap)).congr ?_
      rw [run_resolve w ho (hd a o w _ _ _ hev)]
      show (callFunc f ((first' ++ c.args.map a.eval) ++ cap')).run P w = _
      congr 2
      apply Array.ext'; simp
    · rename_i name
      split at h <;> (try (cases h; done))
      rename_i t v0
      obtain ⟨v, s', h1, h2⟩ := callM_ok t name v0 X rec hX hrec _ s k v1 s1 h
      refine ⟨v, s', h1, fun ρ w a o ho hr hgl hops => ?_⟩
      have hfr := hops f0 hmem fe hfe
      rw [hfv] at hfr
      generalize hev : a.eval f0 = rv at hfr
      cases hfr
      rename_i first' cap' hy hfst hcap
      obtain ⟨l⟩ := first'
      cases hfst with
      | cons _ x' _ _ hx hl =>
        cases hl
        cases hx
        rename_i v0' hv0'
        refine (h2 ρ w v0' _ hr hgl hv0' (hargs hops)).congr ?_
        rw [run_resolve w ho (hd a o w _ _ _ hev)]
        show (invoke (.fn (.method name) cap') (#[Value.iface t v0'] ++ c.args.map a.eval)).run P w = _
        rw [invoke_method (head_args _ _), tail_args]
        rw [show c.args.map a.eval = (c.args.toList.map a.eval).toArray from by apply Array.ext'; simp]

theorem call_ok (c : Call) : ActOk P γ n (.call c) (xCall P n c) := by
  unfold xCall
  split
  · rename_i b hb; exact builtin_ok c b hb
  · rename_i f hf; exact callV_ok c f hf
  · rename_i r name hr; exact callI_ok c r name hr

/-- Every operation. -/
theorem exec_ok (op : Op) : ActOk P γ n op (execT P n op) := by
  cases op
  case pick c a b => exact pick_ok c a b
  all_goals first
    | exact actOk_no
    | exact move_ok _ _ (.inl rfl)
    | exact move_ok _ _ (.inr rfl)
    | exact alloc_ok _
    | exact box_ok _ _
    | exact build_ok _ _
    | exact buildSlice_ok _ _ _
    | exact load_ok _ _
    | exact store_ok _ _ _
    | exact nil_ok _
    | exact bin_ok _ _ _ _ _
    | exact un_ok _ _ _
    | exact conv_ok _ _ _
    | exact iface_ok _ _
    | exact func_ok _ _ _
    | exact makeSlice_ok _ _ _
    | exact slice_ok _ _ _ _ _
    | exact fieldAddr_ok _ _ _
    | exact field_ok _ _ _
    | exact indexAddr_ok _ _ _
    | exact index_ok _ _ _
    | exact range_ok _ _
    | exact makeMap_ok _ _
    | exact lookup_ok _ _ _ _
    | exact update_ok _ _ _ _ _ (.inl rfl)
    | exact update_ok _ _ _ _ _ (.inr rfl)
    | exact entry_ok _ _ _
    | exact entryStore_ok _ _ _ _
    | exact next_ok _ _
    | exact assert_ok _ _ _ _
    | exact extract_ok _ _
    | exact call_ok _
end ops
end Go.Eng
