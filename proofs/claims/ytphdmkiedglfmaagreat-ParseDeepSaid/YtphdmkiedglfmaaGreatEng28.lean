/- A part of the proof: an interpreter of the program, shown right once, and the laws that it computes. -/
import Derived.Test.YtphdmkiedglfmaaGreatEng27
set_option linter.constructorNameAsVariable false
set_option linter.unusedVariables false
set_option linter.unusedSimpArgs false
namespace Go.Eng
variable {P : Program} {γ : Gam}

theorem le_with_none {ρ : Rho} {b : Nat} {p : Pl} (h : ρ b = none) : Le ρ (ρ.with b p) := by
  intro x q hx
  rw [Rho.with_other]
  · exact hx
  · intro e; subst e; rw [h] at hx; cases hx

/-- What is there in the ideal comes to be. -/
theorem Rel.born {ρ : Rho} {s : St} {w : World} (h : Rel P γ ρ s w) {b : Nat} (hb : ρ b = none) (hlt : b < s.next) {p : Pl} (hp : p.blk = w.heap.size) {o : Obj} (ho : OR P (ρ.with b p) γ p (s.get b) o) :
    Rel P γ (ρ.with b p) s (pushed w o) := by
  have hle : Le ρ (ρ.with b p) := le_with_none hb
  refine ⟨?_, ?_, h.fresh, ?_⟩
  · intro b' q hb' hd
    by_cases e : b' = b
    · subst e
      rw [Rho.with_self] at hb'; cases hb'
      exact ⟨o, by rw [hp]; exact pushed_self w o, ho⟩
    · rw [Rho.with_other _ _ e] at hb'
      obtain ⟨o', h1, h2⟩ := h.live b' q hb' hd
      exact ⟨o', by rw [pushed_other (h.bound b' q hb').2]; exact h1, h2.mono hle⟩
  · intro b' q hb'
    rw [pushed_size]
    by_cases e : b' = b
    · subst e
      rw [Rho.with_self] at hb'; cases hb'
      exact ⟨hlt, by omega⟩
    · rw [Rho.with_other _ _ e] at hb'
      have := h.bound b' q hb'
      exact ⟨this.1, by omega⟩
  · intro b1 b2 p1 p2 h1 h2 d1 d2 hne
    by_cases e1 : b1 = b
    · subst e1
      rw [Rho.with_self] at h1; cases h1
      rw [Rho.with_other _ _ (Ne.symm hne)] at h2
      have := (h.bound b2 p2 h2).2
      omega
    · rw [Rho.with_other _ _ e1] at h1
      by_cases e2 : b2 = b
      · subst e2
        rw [Rho.with_self] at h2; cases h2
        have := (h.bound b1 p1 h1).2
        omega
      · rw [Rho.with_other _ _ e2] at h2
        exact h.apart b1 b2 p1 p2 h1 h2 d1 d2 hne

theorem Goes.born' {ρ₀ ρ : Rho} {s₀ s : St} {w₀ w : World} (h : Goes ρ₀ s₀ w₀ ρ s w) {b : Nat} (hb : ρ b = none) (h0 : s₀.next ≤ b) {p : Pl} (hp : p.blk = w.heap.size) (o : Obj) : Goes ρ₀ s₀ w₀ (ρ.with b p) s (pushed w o) where
  le := h.le.trans (le_with_none hb)
  unborn b' hb' hn := by
    obtain ⟨h1, h2⟩ := h.unborn b' hb' hn
    exact ⟨by rw [Rho.with_other _ _ (by omega)]; exact h1, h2⟩
  next := h.next
  others x hx hn := by
    rw [pushed_other (Nat.lt_of_lt_of_le hx h.size)]
    exact h.others x hx hn
  born b' q hb' hd hq := by
    by_cases e : b' = b
    · subst e
      rw [Rho.with_self] at hb'; cases hb'
      have := h.size
      omega
    · rw [Rho.with_other _ _ e] at hb'
      exact h.born b' q hb' hd hq
  size := by rw [pushed_size]; have := h.size; omega
  os := h.os
  tape := h.tape
  output := h.output

/-- What is not yet there may come ahead of its time. -/
theorem Rel.ahead {ρ : Rho} {s : St} {w : World} (h : Rel P γ ρ s w) (x : IObj) : Rel P γ ρ (s.new x) w ∧ ρ s.next = none := by
  have hn : ρ s.next = none := by
    cases hr : ρ s.next with
    | none => rfl
    | some p => have := (h.bound _ p hr).1; omega
  have hne : ∀ {b p}, ρ b = some p → b ≠ s.next := fun {b p} hb e => by subst e; rw [hn] at hb; cases hb
  refine ⟨⟨?_, ?_, ?_, ?_⟩, hn⟩
  · intro b p hb hd
    rw [get_new, if_neg (hne hb)] at hd ⊢
    exact h.live b p hb hd
  · intro b p hb
    have := h.bound b p hb
    exact ⟨by rw [next_new]; omega, this.2⟩
  · intro b hb
    rw [next_new] at hb
    rw [get_new, if_neg (by omega)]
    exact h.fresh b (by omega)
  · intro b1 b2 p1 p2 h1 h2 d1 d2 hne'
    rw [get_new, if_neg (hne h1)] at d1
    rw [get_new, if_neg (hne h2)] at d2
    exact h.apart b1 b2 p1 p2 h1 h2 d1 d2 hne'

theorem row_or {ρ : Rho} {w : World} {b e n : Nat} {l : List IV} {arr : Array Value} (hb : ρ b = none) (hv : VRs ρ γ l arr.toList) (hz : size P e = some n) :
    OR P (ρ.with b ⟨w.heap.size, 0, arr.size, n⟩) γ ⟨w.heap.size, 0, arr.size, n⟩ (rowOf l e 0) (.cells arr e) := by
  have hll := hv.length
  simp only [Array.length_toList] at hll
  refine .cells _ _ _ _ _ _ _ (by simp; omega) (by simp) ?_ (by intro j _ _ hj; simp at hj) (fun _ => ⟨.inl rfl, fun _ => rfl⟩) (fun _ => rfl) hz
  intro j hj
  rw [get_wrC, dif_pos (by omega)]
  have hk : l[j - 0]? = some (l[j - 0]'(by omega)) := List.getElem?_eq_getElem (by omega)
  obtain ⟨v', hv1, hv2⟩ := hv.get hk
  refine ⟨v', ?_, hv2.mono (le_with_none hb)⟩
  simp only [Nat.zero_add]
  simpa using hv1

/-- A world that may have drawn. -/
def dr (j : Bool) (w : World) : World := match j with
  | true => Eng.drawn w
  | false => w
theorem dr_size (j : Bool) (w : World) : (dr j w).heap.size = w.heap.size := by cases j <;> rfl
theorem Rel.dr {ρ : Rho} {s : St} {w : World} (h : Rel P γ ρ s w) (j : Bool) : Rel P γ ρ s (Eng.dr j w) := by
  cases j
  · exact h
  · exact h.drawn
theorem Goes.dr {ρ₀ ρ : Rho} {s₀ s : St} {w₀ w : World} (h : Goes ρ₀ s₀ w₀ ρ s w) (j : Bool) : Goes ρ₀ s₀ w₀ ρ s (Eng.dr j w) := by
  cases j
  · exact h
  · exact h.trans (Goes.drawn ρ s w)
/-- It makes a new block, whenever it is done. -/
def MadeAct (P : Program) (γ : Gam) (n : Nat) (op : Op) (A : Eng.Act) : Prop := ∀ fa, A = .mk fa → ∀ X rec env s k v1 s1, fa X rec env s k = .ok v1 s1 → ∃ v x, x ≠ .dead ∧ k v (s.new x) = .ok v1 s1 ∧
  ∀ (ρ : Rho) (w : World) (a : Go.Act) (o : Oper), o.op = op → ρ s.next = none → OpsR P γ n ρ env a op.operands.toList →
    ∃ v' ob p j, (execOp a.eval o).run P w = .ok (.value v') (pushed (dr j w) ob) ∧ p.blk = w.heap.size ∧ OR P (ρ.with s.next p) γ p x ob ∧ VR (ρ.with s.next p) γ v v'

theorem madeAct_no {n : Nat} {op : Op} : MadeAct P γ n op noAct := by
  intro fa hf X rec env s k v1 s1 h
  cases hf; cases h

theorem rowOf_ne (l : List IV) (e t : Nat) : rowOf l e t ≠ .dead := by intro h; cases h

section ops
variable {n : Nat}
theorem alloc_made (e : Nat) : MadeAct P γ n (.alloc e) (xAlloc P e) := by
  unfold xAlloc
  split <;> try exact madeAct_no
  rename_i z hz
  intro fa hf X rec env s k v1 s1 h
  cases hf
  refine ⟨_, _, rowOf_ne z.cells e 0, h, fun ρ w a o ho hb hops => ?_⟩
  obtain ⟨m, hm⟩ := size_of_zero hz
  obtain ⟨v, hv, hrun⟩ := run_zeroValue hz
  refine ⟨_, .cells v.cells e, ⟨w.heap.size, 0, v.cells.size, m⟩, false, ?_, rfl, row_or hb (VR.ofValue (ρ := ρ) (γ := γ) hv).cells hm, .ptr _ _ _ (Rho.with_self _ _ _)⟩
  simp only [dr, execOp, ho, Instr.alloc, Sem.run_bind, hrun, Result.andThen_ok, newVar, run_newRow, Sem.run_pure]

theorem box_made (e : Nat) (x : Operand) : MadeAct P γ n (.box e x) (xBox P n e x) := by
  unfold xBox
  split <;> try exact madeAct_no
  rename_i f hf
  split <;> try exact madeAct_no
  rename_i z hz
  intro fa hfa X rec env s k v1 s1 h
  cases hfa
  refine ⟨_, _, rowOf_ne (f env).cells e 0, h, fun ρ w a o ho hb hops => ?_⟩
  have hx := hops x (.head _) f hf
  refine ⟨_, .cells (a.eval x).cells e, ⟨w.heap.size, 0, (a.eval x).cells.size, z⟩, false, ?_, rfl, row_or hb hx.cells hz, .ptr _ _ _ (Rho.with_self _ _ _)⟩
  simp only [dr, execOp, ho, Instr.box, Sem.run_bind, Result.andThen_ok, newVar, run_newRow, Sem.run_pure]

theorem buildSlice_made (t len : Nat) (ps : Array (Nat × Operand)) : MadeAct P γ n (.buildSlice t len ps) (xBuildSlice P n t len ps.toList) := by
  unfold xBuildSlice
  split <;> try exact madeAct_no
  rename_i f hf
  split <;> try exact madeAct_no
  rename_i e he
  split <;> try exact madeAct_no
  rename_i z hz
  split <;> try exact madeAct_no
  rename_i k hk
  split <;> try exact madeAct_no
  rename_i hb
  simp only [Bool.and_eq_true] at hb
  intro fa hfa X rec env s q v1 s1 h
  cases hfa
  dsimp only at h
  obtain ⟨v, s', h1, h2⟩ := bind_ok h
  cases hc : Eng.fill (fun i => some (i * k, k)) (rep len z.cells) (f env) with
  | none => rw [hc] at h1; cases h1
  | some c =>
    rw [hc] at h1
    cases h1
    refine ⟨_, _, rowOf_ne c e 0, h2, fun ρ w a o ho hbn hops => ?_⟩
    have hp := OpsR.evp (l := ps.toList) (fun x hx => hops x (by simpa [Op.operands] using hx)) hf
    have hle := Nat.le_of_ble_eq_true hb.1
    have hzl := Nat.eq_of_beq_eq_true hb.2
    have hu := sliceT_eq he
    obtain ⟨zv, hzv, hzrun⟩ := run_zeroValue hz
    have hzr := (VR.ofValue (ρ := ρ) (γ := γ) hzv).cells
    have hzs : zv.cells.size = k := by have := hzr.length; simp at this; omega
    have hnb : ¬ (len * k > 2 ^ 24) := by omega
    let zs : Array Value := if len * k = 0 then #[] else zv.cells
    have hrow : VRs ρ γ (rep len z.cells) ((Array.range (len * k)).map (zs[· % zs.size]!)).toList := by
      by_cases h0 : len * k = 0
      · have : rep len z.cells = [] := List.length_eq_zero_iff.1 (by rw [length_rep, hzl, h0])
        rw [this, h0]; simpa using VRs.nil
      · have : zs = zv.cells := if_neg h0
        rw [this]
        exact rep_sim hzr (by rw [hzs])
    obtain ⟨r', g1, g2⟩ := fill_sim hrow hp.1 hp.2 hc
    refine ⟨.slice (some ⟨w.heap.size, 0, none⟩) len len, .cells r' e, ⟨w.heap.size, 0, r'.size, k⟩, false, ?_, rfl, row_or hbn g2 hk, ?_⟩
    · simp only [dr, execOp, ho, Instr.buildSlice, Sem.run_bind, run_underlying hu, Result.andThen_ok, run_sizeOf hk, if_neg hnb]
      by_cases h0 : len * k = 0
      · have hz0 : zs = #[] := if_pos h0
        rw [hz0] at g1
        simp only [if_pos h0, Sem.run_bind, Sem.run_pure, Result.andThen_ok]
        have g1' : Instr.fill (fun i => some (i * k, k)) ((Array.range (len * k)).map ((#[] : Array Value)[· % (#[] : Array Value).size]!)) (ps.map fun (i, x) => (i, a.eval x)).toList = some r' := by simpa using g1
        simp only [g1', Sem.run_bind, run_newRow, Result.andThen_ok, Sem.run_pure]
      · have hz0 : zs = zv.cells := if_neg h0
        rw [hz0] at g1
        simp only [if_neg h0, Sem.run_bind, hzrun, Sem.run_pure, Result.andThen_ok]
        have g1' : Instr.fill (fun i => some (i * k, k)) ((Array.range (len * k)).map (zv.cells[· % zv.cells.size]!)) (ps.map fun (i, x) => (i, a.eval x)).toList = some r' := by simpa using g1
        simp only [g1', Sem.run_bind, run_newRow, Result.andThen_ok, Sem.run_pure]
    · have := VR.slx (ρ := ρ.with s.next ⟨w.heap.size, 0, r'.size, k⟩) (γ := γ) s.next 0 len len _ (Rho.with_self _ _ _)
      exact this

theorem toRow_run {e : Nat} (he : isByte P e = true) (b : ByteArray) {X : List IV} (hXl : X.length = b.size) (hX : ∀ ρ, VRs ρ γ X (b.data.toList.map fun c => Value.int .u8 c.toNat)) (w : World) : ∃ cap arr, b.size ≤ cap ∧
    (Conv.stringToBytes e b).run P w = .ok (.slice (some ⟨w.heap.size, 0, none⟩) b.size cap) (pushed (Eng.drawn w) (.cells arr e (arr.size, arr.size + 1))) ∧
    ∀ ρ : Rho, OR P ρ γ ⟨w.heap.size, 0, cap, 1⟩ (rowOf X e 1) (.cells arr e (arr.size, arr.size + 1)) := by
  obtain ⟨hu, hz⟩ := isByte_eq he
  have hcap : ∃ cap, b.size ≤ cap ∧ (choose (.appendCap b.size 0 e)).run P w = .ok cap (Eng.drawn w) :=
    ⟨b.size + w.tape w.drawn (.appendCap b.size 0 e) % (2 ^ 63 - b.size), Nat.le_add_right _ _, by simp only [run_choose, Question.forced, Bool.false_eq_true, if_false]; rfl⟩
  obtain ⟨cap, hle, hch⟩ := hcap
  generalize hw : Eng.drawn w = wd at hch
  have hsz : wd.heap.size = w.heap.size := by subst hw; rfl
  let elems : Array Value := b.data.map fun c => .int .u8 c.toNat
  let arr : Array Value := elems ++ Array.replicate (cap - b.size) (.int .u8 0)
  have hasz : arr.size = cap := by
    show (b.data.map _ ++ Array.replicate _ _).size = cap
    have : b.data.size = b.size := rfl
    simp; omega
  refine ⟨cap, arr, hle, ?_, fun ρ => ?_⟩
  · unfold Conv.stringToBytes
    simp only [Sem.run_bind, hch, Result.andThen_ok, run_newRow]
    rw [run_markStringish (pushed_self wd _)]
    simp only [Result.andThen_ok, Sem.run_pure, beq_self_eq_true, if_true, setRow_pushed]
    rw [hsz]
  · refine .cells _ _ _ _ _ _ _ (by rw [hXl]; show 0 + b.size ≤ cap; omega) (by show cap ≤ arr.size; omega) ?_ ?_ (fun hne => absurd rfl hne) (fun h0 => by cases h0) hz
    · intro j hj
      rw [hXl] at hj
      have hbl : X.length = b.size := hXl
      rw [get_wrC, dif_pos (by omega)]
      have hv := hX ρ
      have hk : X[j - 0]? = some (X[j - 0]'(by omega)) := List.getElem?_eq_getElem (by omega)
      obtain ⟨v', hv1, hv2⟩ := hv.get hk
      refine ⟨v', ?_, hv2⟩
      show arr[0 + j]? = _
      have hj2 : j < elems.size := by show j < (b.data.map _).size; have : b.data.size = b.size := rfl; simp; omega
      rw [Nat.zero_add, Array.getElem?_append_left hj2, ← hv1]
      show (b.data.map _)[j]? = _
      rw [Nat.sub_zero, Array.getElem?_map, List.getElem?_map, Array.getElem?_toList]
    · intro j hj1 hj2 hj3
      have hj2 : j < cap := hj2
      rw [hasz] at hj3
      omega
theorem conv_made {src dst : Nat} (x : Operand) (hc : clsConv (undI P src) (undI P dst) = .made) : MadeAct P γ n (.convert src dst x) (xConv P n src dst x) := by
  unfold xConv
  split <;> try exact madeAct_no
  rename_i f hf
  split <;> try exact madeAct_no
  rename_i us hs
  split <;> try exact madeAct_no
  rename_i ud hd
  rw [hs, hd] at hc
  intro fa hfa X rec env s k v1 s1 h
  cases hfa
  dsimp only at h
  obtain ⟨v, s', h1, h2⟩ := bind_ok h
  cases us <;> (try (cases hc; done)) <;> cases ud <;> (try (cases hc; done))
  rename_i e
  unfold convAt at h1
  cases hv : f env <;> rw [hv] at h1 <;> (try (cases h1; done))
  · rename_i b
    simp only at h1
    unfold toBytes at h1
    cases hb : isByte P e with
    | false => rw [hb] at h1; cases h1
    | true =>
      rw [hb] at h1
      cases h1
      refine ⟨_, _, rowOf_ne _ e 1, h2, fun ρ w a o ho hbn hops => ?_⟩
      have hx := hops x (.head _) f hf
      rw [hv] at hx
      generalize hy : a.eval x = y at hx
      obtain ⟨l, rfl, rfl⟩ : ∃ l : ByteArray, y = .string l ∧ b = l.data.toList.map UInt8.toNat := by
        cases hx with
        | str l _ hl => exact ⟨l, rfl, by first | exact hl | exact hl.symm⟩
      have hl : (l.data.toList.map UInt8.toNat).length = l.size := by simp
      obtain ⟨cap, arr, hle, hrun, hor⟩ := toRow_run (γ := γ) hb l (X := bytesI (l.data.toList.map UInt8.toNat)) (by rw [length_bytesI, hl]) (fun ρ => bytesI_sim l.data.toList) w
      obtain ⟨hu, _⟩ := isByte_eq hb
      refine ⟨.slice (some ⟨w.heap.size, 0, none⟩) l.size cap, _, ⟨w.heap.size, 0, cap, 1⟩, true, ?_, rfl, hor _, ?_⟩
      · simp only [execOp, ho, hy]
        unfold convert
        simp only [Sem.run_bind, run_underlying (undI_eq hs), run_underlying (undI_eq hd), Result.andThen_ok, run_underlying (undI_eq hu), hrun, Sem.run_pure]
        rfl
      · have hvl := VR.sli (ρ := ρ.with s.next ⟨w.heap.size, 0, cap, 1⟩) (γ := γ) s.next 0 l.size l.size cap 0 ⟨w.heap.size, 0, cap, 1⟩ (Rho.with_self _ _ _) (Nat.le_refl _) hle (.inl rfl) (by show 0 + cap * 1 ≤ cap; omega)
        rw [hl]
        exact hvl
  · rename_i b
    simp only at h1
    unfold toBytesS at h1
    cases hb : isByte P e with
    | false => rw [hb] at h1; cases h1
    | true =>
      rw [hb] at h1
      cases h1
      refine ⟨_, _, rowOf_ne _ e 1, h2, fun ρ w a o ho hbn hops => ?_⟩
      have hx := hops x (.head _) f hf
      rw [hv] at hx
      generalize hy : a.eval x = y at hx
      obtain ⟨l, rfl, hs1, hs2⟩ : ∃ l : ByteArray, y = .string l ∧ l.data.toList.map UInt8.toNat = b.map (den γ) ∧ ∀ c ∈ b, CodeOk γ c := by
        cases hx with
        | sstr l _ hl hc => exact ⟨l, rfl, hl, hc⟩
      have hl : b.length = l.size := by have := congrArg List.length hs1; simpa using this.symm
      obtain ⟨cap, arr, hle, hrun, hor⟩ := toRow_run (γ := γ) hb l (X := bytesS b) (by rw [length_bytesS, hl]) (fun ρ => bytesS_sim hs1 hs2) w
      obtain ⟨hu, _⟩ := isByte_eq hb
      refine ⟨.slice (some ⟨w.heap.size, 0, none⟩) l.size cap, _, ⟨w.heap.size, 0, cap, 1⟩, true, ?_, rfl, hor _, ?_⟩
      · simp only [execOp, ho, hy]
        unfold convert
        simp only [Sem.run_bind, run_underlying (undI_eq hs), run_underlying (undI_eq hd), Result.andThen_ok, run_underlying (undI_eq hu), hrun, Sem.run_pure]
        rfl
      · have hvl := VR.sli (ρ := ρ.with s.next ⟨w.heap.size, 0, cap, 1⟩) (γ := γ) s.next 0 l.size l.size cap 0 ⟨w.heap.size, 0, cap, 1⟩ (Rho.with_self _ _ _) (Nat.le_refl _) hle (.inl rfl) (by show 0 + cap * 1 ≤ cap; omega)
        rw [hl]
        exact hvl

theorem cls_made (op : Op) (h : clsOf P op = .made) : MadeAct P γ n op (execT P n op) := by
  cases op
  case convert src dst x => exact conv_made x h
  case call c =>
    exfalso
    change clsCall P c.callee c.argTypes = .made at h
    unfold clsCall at h
    split at h <;> (try (cases h; done))
    unfold clsBuiltin at h
    split at h <;> (try (cases h; done))
    split at h <;> cases h
  all_goals first
    | (cases h; done)
    | exact alloc_made _
    | exact box_made _ _
    | exact buildSlice_made _ _ _
end ops
end Go.Eng

set_option linter.constructorNameAsVariable false
set_option linter.unusedVariables false
set_option linter.unusedSimpArgs false
namespace Go.Eng
variable {P : Program} {γ : Gam}

theorem has_eq (m i : Nat) : has m i = m.testBit i := by
  unfold has
  show Nat.beq ((m >>> i) &&& 1) 1 = (1 &&& (m >>> i) != 0)
  rw [Nat.and_comm 1]
  have : (m >>> i) &&& 1 < 2 := Nat.lt_of_le_of_lt (Nat.and_le_right) (by decide)
  generalize (m >>> i) &&& 1 = q at this
  match q, this with
  | 0, _ => rfl
  | 1, _ => rfl
theorem ready_bits {done : Nat} {p : Plan} (h : ready done p = true) (j : Nat) (hj : p.bef.testBit j = true) : done.testBit j = true := by
  have := Nat.eq_of_beq_eq_true h
  have h2 : (p.bef &&& done).testBit j = p.bef.testBit j := congrArg (·.testBit j) this
  rw [Nat.testBit_and, hj] at h2
  simpa using h2

theorem bitAt_eq : ∀ (acc : List Nat) (k : Nat), bitAt acc k = acc.getD k 0
  | [], k => rfl
  | x :: acc, 0 => rfl
  | x :: acc, k + 1 => bitAt_eq acc k

theorem edgeBits_bits (i : Nat) (acc : List Nat) : ∀ (es : List Edge) (b j : Nat), (edgeBits i acc es b).testBit j = true → b.testBit j = true ∨ ∃ e ∈ es, Region.binds .any e = true ∧ (j = e.on ∨ (acc.getD (i - 1 - e.on) 0).testBit j = true)
  | [], b, j, h => .inl h
  | e :: es, b, j, h => by
    have he : edgeBits i acc (e :: es) b = Bool.rec (motive := fun _ => Nat) (edgeBits i acc es b) (edgeBits i acc es (Nat.lor (Nat.lor b (Nat.pow 2 e.on)) (bitAt acc (Nat.sub (Nat.sub i 1) e.on)))) (Region.binds .any e) := rfl
    rw [he] at h
    cases hb : Region.binds .any e with
    | false =>
      rw [hb] at h
      rcases edgeBits_bits i acc es b j h with h1 | ⟨e', h1, h2⟩
      · exact .inl h1
      · exact .inr ⟨e', .tail _ h1, h2⟩
    | true =>
      rw [hb] at h
      rcases edgeBits_bits i acc es _ j h with h1 | ⟨e', h1, h2⟩
      · change ((b ||| 2 ^ e.on) ||| bitAt acc (i - 1 - e.on)).testBit j = true at h1
        rw [Nat.testBit_or, Nat.testBit_or, Nat.testBit_two_pow, bitAt_eq] at h1
        simp only [Bool.or_eq_true, decide_eq_true_eq] at h1
        rcases h1 with (h1 | h1) | h1
        · exact .inl h1
        · exact .inr ⟨e, .head _, hb, .inl h1.symm⟩
        · exact .inr ⟨e, .head _, hb, .inr h1⟩
      · exact .inr ⟨e', .tail _ h1, h2⟩

theorem befores_cons (o : Oper) (os : List Oper) (i : Nat) (acc : List Nat) : befores (o :: os) i acc = edgeBits i acc o.after.toList 0 :: befores os (i + 1) (edgeBits i acc o.after.toList 0 :: acc) := rfl
theorem length_befores : ∀ (os : List Oper) (i : Nat) (acc : List Nat), (befores os i acc).length = os.length
  | [], _, _ => rfl
  | o :: os, i, acc => by rw [befores_cons, List.length_cons, length_befores os]; rfl
theorem get_befores : ∀ (os : List Oper) (i : Nat) (acc : List Nat) (k : Nat) (o : Oper), os[k]? = some o →
    (befores os i acc)[k]? = some (edgeBits (i + k) (((befores os i acc).take k).reverse ++ acc) o.after.toList 0)
  | [], _, _, k, o, h => by simp at h
  | o' :: os, i, acc, 0, o, h => by simp at h; subst h; rw [befores_cons]; simp
  | o' :: os, i, acc, k + 1, o, h => by
    rw [befores_cons]
    have := get_befores os (i + 1) (edgeBits i acc o'.after.toList 0 :: acc) k o (by simpa using h)
    rw [List.getElem?_cons_succ, this, List.take_succ_cons, List.reverse_cons, List.append_assoc]
    rw [show i + 1 + k = i + (k + 1) by omega]
    rfl

theorem get_plans (P : Program) : ∀ (os : List Oper) (bs : List Nat) (i k : Nat), bs.length = os.length → (plans P os bs i)[k]? = (os[k]?).bind fun o => (bs[k]?).map fun b => ⟨i + k, o, b, clsOf P o.op⟩
  | [], bs, i, k, _ => by cases bs <;> simp [plans]
  | o :: os, [], i, k, h => by simp at h
  | o :: os, b :: bs, i, 0, h => by simp [plans]
  | o :: os, b :: bs, i, k + 1, h => by
    simp only [plans, List.getElem?_cons_succ]
    rw [get_plans P os bs (i + 1) k (by simpa using h)]
    rw [show Nat.succ i + k = i + (k + 1) by omega]

theorem length_plans (P : Program) : ∀ (os : List Oper) (bs : List Nat) (i : Nat), bs.length = os.length → (plans P os bs i).length = os.length
  | [], bs, i, _ => by cases bs <;> simp [plans]
  | o :: os, [], i, h => by simp at h
  | o :: os, b :: bs, i, h => by simp only [plans, List.length_cons]; rw [length_plans P os bs _ (by simpa using h)]
theorem get_all (P : Program) (os : List Oper) (k : Nat) : (allPlans P os)[k]? = (os[k]?).bind fun o => ((befores os 0 [])[k]?).map fun b => ⟨k, o, b, clsOf P o.op⟩ := by
  unfold allPlans
  rw [get_plans P os _ 0 k (length_befores os 0 [])]
  simp

theorem mem_all {os : List Oper} {p : Plan} (h : p ∈ allPlans P os) : (allPlans P os)[p.i]? = some p ∧ os[p.i]? = some p.o ∧ (befores os 0 [])[p.i]? = some p.bef ∧ p.cls = clsOf P p.o.op := by
  obtain ⟨k, hk⟩ := List.mem_iff_getElem?.1 h
  have hk0 := hk
  rw [get_all] at hk
  cases ho : os[k]? with
  | none => rw [ho] at hk; cases hk
  | some o =>
    rw [ho] at hk
    cases hb : (befores os 0 [])[k]? with
    | none => rw [hb] at hk; cases hk
    | some b =>
      rw [hb] at hk
      cases hk
      exact ⟨hk0, ho, hb, rfl⟩
theorem all_mem {os : List Oper} {k : Nat} (h : k < os.length) : ∃ p ∈ allPlans P os, p.i = k := by
  have ho : os[k]? = some os[k] := List.getElem?_eq_getElem h
  have hb : (befores os 0 [])[k]? = some ((befores os 0 [])[k]'(by rw [length_befores]; exact h)) := List.getElem?_eq_getElem _
  refine ⟨⟨k, os[k], (befores os 0 [])[k]'(by rw [length_befores]; exact h), clsOf P os[k].op⟩, List.mem_iff_getElem?.2 ⟨k, ?_⟩, rfl⟩
  rw [get_all, ho, hb]
  rfl
theorem all_inj {os : List Oper} {p q : Plan} (hp : p ∈ allPlans P os) (hq : q ∈ allPlans P os) (h : p.i = q.i) : p = q := by
  have h1 := (mem_all hp).1
  have h2 := (mem_all hq).1
  rw [h, h2] at h1
  exact (Option.some.inj h1).symm
theorem all_bef {os : List Oper} {p : Plan} (hp : p ∈ allPlans P os) (hedge : ∀ e ∈ p.o.after.toList, Region.binds .any e = true → e.on < p.i) {j : Nat} (hj : p.bef.testBit j = true) :
    ∃ e ∈ p.o.after.toList, Region.binds .any e = true ∧ (j = e.on ∨ ∃ q ∈ allPlans P os, q.i = e.on ∧ q.bef.testBit j = true) := by
  obtain ⟨_, h1, h2, _⟩ := mem_all hp
  have h3 := get_befores os 0 [] p.i p.o h1
  rw [h2] at h3
  have h4 := Option.some.inj h3
  rw [h4] at hj
  rcases edgeBits_bits _ _ _ _ _ hj with h5 | ⟨e, h5, h6, h7⟩
  · simp at h5
  · refine ⟨e, h5, h6, ?_⟩
    rcases h7 with h7 | h7
    · exact .inl h7
    · right
      have hlt := hedge e h5 h6
      have hpl : p.i < os.length := (List.getElem?_eq_some_iff.1 h1).1
      obtain ⟨q, hq1, hq2⟩ := all_mem (P := P) (os := os) (k := e.on) (by omega)
      refine ⟨q, hq1, hq2, ?_⟩
      obtain ⟨_, _, hq3, _⟩ := mem_all hq1
      rw [hq2] at hq3
      have hlb := length_befores os 0 []
      rw [List.append_nil, List.getD_eq_getElem?_getD, List.getElem?_reverse (by rw [List.length_take]; omega), List.length_take, List.getElem?_take] at h7
      rw [show min p.i (befores os 0 []).length - 1 - (0 + p.i - 1 - e.on) = e.on by omega, if_pos hlt, hq3] at h7
      exact h7
theorem all_i {os : List Oper} {k : Nat} {p : Plan} (h : (allPlans P os)[k]? = some p) : p.i = k := by
  rw [get_all] at h
  cases ho : os[k]? <;> rw [ho] at h <;> (try (cases h; done))
  cases hb : (befores os 0 [])[k]? <;> rw [hb] at h <;> cases h
  rfl
theorem all_nodup (P : Program) (os : List Oper) : (allPlans P os).Nodup := by
  unfold List.Nodup
  rw [List.pairwise_iff_getElem]
  intro i j hi hj hij he
  have h1 := all_i (List.getElem?_eq_getElem hi)
  have h2 := all_i (List.getElem?_eq_getElem hj)
  rw [he] at h1
  omega

/- the order -/
theorem pickSoft_perm {done : Nat} : ∀ {l : List Plan} {p : Plan} {r : List Plan}, pickSoft done l = .mk p r → l.Perm (p :: r) ∧ ready done p = true
  | [], p, r, h => by cases h
  | q :: l, p, r, h => by
    have he : pickSoft done (q :: l) = Bool.rec (motive := fun _ => Pick) (Pick.rec (motive := fun _ => Pick) .no (fun q' qs => .mk q' (q :: qs)) (pickSoft done l)) (.mk q l) (Bool.rec (motive := fun _ => Bool) false (ready done q) q.cls.soft) := rfl
    rw [he] at h
    have step : Pick.rec (motive := fun _ => Pick) .no (fun q' qs => .mk q' (q :: qs)) (pickSoft done l) = .mk p r → (q :: l).Perm (p :: r) ∧ ready done p = true := by
      intro h
      cases hl : pickSoft done l with
      | no => rw [hl] at h; cases h
      | mk q' qs =>
        rw [hl] at h
        cases h
        obtain ⟨h1, h2⟩ := pickSoft_perm hl
        exact ⟨(h1.cons q).trans (List.Perm.swap _ _ _), h2⟩
    cases hs : q.cls.soft with
    | false => rw [hs] at h; exact step h
    | true =>
      rw [hs] at h
      cases hr : ready done q with
      | false => rw [hr] at h; exact step h
      | true => rw [hr] at h; cases h; exact ⟨List.Perm.refl _, hr⟩
theorem pickHard_perm {done : Nat} {l : List Plan} {p : Plan} {r : List Plan} (h : pickHard done l = .mk p r) : l = p :: r ∧ ready done p = true := by
  cases l with
  | nil => cases h
  | cons q l =>
    change Bool.rec (motive := fun _ => Pick) .no (.mk q l) (ready done q) = .mk p r at h
    cases hr : ready done q with
    | false => rw [hr] at h; cases h
    | true => rw [hr] at h; cases h; exact ⟨rfl, hr⟩

def LinFrom : Nat → List Plan → Prop
  | _, [] => True
  | done, p :: ps => ready done p = true ∧ LinFrom (done ||| 2 ^ p.i) ps

def atLast (l r : List Plan) : Option (List Plan) := match l with
  | [] => some r.reverse
  | _ => none
theorem order_zero (done : Nat) (l r : List Plan) : order 0 done l r = atLast l r := rfl
noncomputable def thenHard (n done : Nat) (l r : List Plan) : Pick → Option (List Plan)
  | .mk p l => order n (Nat.lor done (Nat.pow 2 p.i)) l (p :: r)
  | .no => atLast l r
noncomputable def thenSoft (n done : Nat) (l r : List Plan) : Pick → Option (List Plan)
  | .mk p l => order n (Nat.lor done (Nat.pow 2 p.i)) l (p :: r)
  | .no => thenHard n done l r (pickHard done l)
theorem order_succ (n done : Nat) (l r : List Plan) : order (n + 1) done l r = thenSoft n done l r (pickSoft done l) := by
  have : order (n + 1) done l r = (match pickSoft done l with
      | .mk p l => order n (Nat.lor done (Nat.pow 2 p.i)) l (p :: r)
      | .no => match pickHard done l with
        | .mk p l => order n (Nat.lor done (Nat.pow 2 p.i)) l (p :: r)
        | .no => match l with
          | [] => some r.reverse
          | _ => none) := rfl
  rw [this]
  cases pickSoft done l with
  | mk p l => rfl
  | no =>
    show _ = thenHard n done l r (pickHard done l)
    cases pickHard done l <;> rfl
theorem atLast_spec {done : Nat} {l r out : List Plan} (h : atLast l r = some out) : ∃ tail, out = r.reverse ++ tail ∧ l.Perm tail ∧ LinFrom done tail := by
  cases l with
  | nil => cases h; exact ⟨[], by simp, List.Perm.refl _, trivial⟩
  | cons _ _ => cases h

theorem order_spec : ∀ (n done : Nat) (l r out : List Plan), order n done l r = some out → ∃ tail, out = r.reverse ++ tail ∧ l.Perm tail ∧ LinFrom done tail
  | 0, done, l, r, out, h => atLast_spec (by rw [order_zero] at h; exact h)
  | n + 1, done, l, r, out, h => by
    rw [order_succ] at h
    cases hs : pickSoft done l with
    | mk p l' =>
      rw [hs] at h
      obtain ⟨h1, h2⟩ := pickSoft_perm hs
      obtain ⟨tail, q1, q2, q3⟩ := order_spec n _ l' _ out h
      exact ⟨p :: tail, by simp [q1], h1.trans (q2.cons p), h2, q3⟩
    | no =>
      rw [hs] at h
      change thenHard n done l r (pickHard done l) = some out at h
      cases hh : pickHard done l with
      | mk p l' =>
        rw [hh] at h
        obtain ⟨rfl, h2⟩ := pickHard_perm hh
        obtain ⟨tail, q1, q2, q3⟩ := order_spec n _ l' _ out h
        exact ⟨p :: tail, by simp [q1], q2.cons p, h2, q3⟩
      | no =>
        rw [hh] at h
        exact atLast_spec h

/- what is asked of a drawn region -/
theorem writers_cons (q : Plan) (l : List Plan) : writers (q :: l) = (match q.o.dst with | some d => ⟨d, q.i, q.bef⟩ :: writers l | none => writers l) := rfl
theorem mem_writers {l : List Plan} {p : Plan} {d : Nat} (h : p ∈ l) (hd : p.o.dst = some d) : (⟨d, p.i, p.bef⟩ : Wr) ∈ writers l := by
  induction l with
  | nil => cases h
  | cons q l ih =>
    rw [writers_cons]
    rcases List.mem_cons.1 h with rfl | h
    · rw [hd]; exact List.mem_cons_self
    · cases q.o.dst with
      | none => exact ih h
      | some _ => exact List.mem_cons_of_mem _ (ih h)

theorem onceOk_cons (w : Wr) (ws : List Wr) : onceOk (w :: ws) = Bool.rec (motive := fun _ => Bool) false (onceOk ws) (allB (fun v => notB (Nat.beq v.t w.t)) ws) := rfl
theorem onceOk_tail {w : Wr} {ws : List Wr} (h : onceOk (w :: ws) = true) : onceOk ws = true ∧ ∀ v ∈ ws, v.t ≠ w.t := by
  rw [onceOk_cons] at h
  cases ha : allB (fun v => notB (Nat.beq v.t w.t)) ws with
  | false => rw [ha] at h; cases h
  | true =>
    rw [ha] at h
    refine ⟨h, fun v hv e => ?_⟩
    have := (allB_iff _ _).1 ha v hv
    rw [notB_eq, e, Nat.beq_refl] at this
    cases this

theorem once_spec {l : List Plan} (h : onceOk (writers l) = true) {p q : Plan} {d : Nat} (hp : p ∈ l) (hq : q ∈ l) (hpd : p.o.dst = some d) (hqd : q.o.dst = some d) : p = q := by
  induction l with
  | nil => cases hp
  | cons x l ih =>
    rw [writers_cons] at h
    have htail : onceOk (writers l) = true := by
      cases hx : x.o.dst with
      | none => rw [hx] at h; exact h
      | some _ => rw [hx] at h; exact (onceOk_tail h).1
    rcases List.mem_cons.1 hp with rfl | hp' <;> rcases List.mem_cons.1 hq with rfl | hq'
    · rfl
    · rw [hpd] at h
      exact absurd (rfl : d = d) ((onceOk_tail h).2 ⟨d, q.i, q.bef⟩ (mem_writers hq' hqd))
    · rw [hqd] at h
      exact absurd (rfl : d = d) ((onceOk_tail h).2 ⟨d, p.i, p.bef⟩ (mem_writers hp' hpd))
    · exact ih htail hp' hq'

theorem look_spec {l : List Plan} {p q : Plan} {t : Nat} (h : planOk1 (writers l) p = true) (hx : .tmp t ∈ p.o.op.operands.toList) (hq : q ∈ l) (hqd : q.o.dst = some t) : p.bef.testBit q.i = true ∨ q.bef.testBit p.i = true := by
  unfold planOk1 at h
  cases h1 : allB (opndOk (writers l) p.i p.bef) p.o.op.operands.toList with
  | false => rw [h1] at h; cases h
  | true =>
    have h2 := (allB_iff _ _).1 h1 _ hx
    change allB (fun w => Bool.rec (motive := fun _ => Bool) true (orB (has p.bef w.i) (has w.bef p.i)) (Nat.beq w.t t)) (writers l) = true at h2
    have h3 := (allB_iff _ _).1 h2 _ (mem_writers hq hqd)
    change Bool.rec (motive := fun _ => Bool) true (orB (has p.bef q.i) (has q.bef p.i)) (Nat.beq t t) = true at h3
    rw [Nat.beq_refl] at h3
    change orB (has p.bef q.i) (has q.bef p.i) = true at h3
    rw [has_eq, has_eq] at h3
    cases h4 : p.bef.testBit q.i with
    | true => exact .inl rfl
    | false => rw [h4] at h3; exact .inr h3
theorem guard_spec {ws : List Wr} {p : Plan} {j : Nat} {b : Bool} (h : planOk1 ws p = true) (hg : p.o.guard = some (j, b)) : p.bef.testBit j = true := by
  unfold planOk1 at h
  split at h <;> (try (cases h; done))
  split at h <;> (try (cases h; done))
  rename_i hk
  rw [hg] at hk
  rw [← has_eq]; exact hk
theorem edge_spec {ws : List Wr} {p : Plan} (h : planOk1 ws p = true) : ∀ e ∈ p.o.after.toList, Region.binds .any e = true → e.on < p.i := by
  unfold planOk1 at h
  split at h <;> (try (cases h; done))
  split at h <;> (try (cases h; done))
  intro e he hb
  have := (allB_iff _ _).1 h e he
  unfold edgeOk at this
  rw [hb] at this
  simpa [Nat.blt_eq] using this

/-- All that is done one behind the other. -/
def HardsFrom : Option Nat → List Plan → Prop
  | _, [] => True
  | last, p :: ps => (∀ j, last = some j → p.bef.testBit j = true) ∧ HardsFrom (match p.cls with | .hard => some p.i | _ => last) ps
theorem hards_spec : ∀ {l : List Plan} {last : Option Nat}, hardsOk l last = true → HardsFrom last l
  | [], _, _ => trivial
  | p :: l, last, h => by
    unfold hardsOk at h
    split at h
    · rename_i hc
      split at h
      · rename_i j
        split at h <;> (try (cases h; done))
        rename_i hb
        refine ⟨fun j' hj => by cases hj; rw [← has_eq]; exact hb, ?_⟩
        rw [hc]; exact hards_spec h
      · exact ⟨fun j hj => (by cases hj), by rw [hc]; exact hards_spec h⟩
    · rename_i hc
      have hm : (match p.cls with | .hard => some p.i | _ => last) = last := by
        cases hpc : p.cls <;> first | rfl | exact absurd hpc hc
      split at h
      · rename_i j
        split at h <;> (try (cases h; done))
        rename_i hb
        refine ⟨fun j' hj => by cases hj; rw [← has_eq]; exact hb, ?_⟩
        rw [hm]; exact hards_spec h
      · exact ⟨fun j hj => (by cases hj), by rw [hm]; exact hards_spec h⟩

/-- What a plan of a region is. -/
structure PlanFacts (P : Program) (ops : Array Oper) (l : List Plan) : Prop where
  nodup : l.Nodup
  len : l.length = ops.size
  op : ∀ p ∈ l, ops[p.i]? = some p.o ∧ p.cls = clsOf P p.o.op
  idx : ∀ i, i < ops.size → ∃ p ∈ l, p.i = i
  inj : ∀ p ∈ l, ∀ q ∈ l, p.i = q.i → p = q
  bef : ∀ p ∈ l, ∀ j, p.bef.testBit j = true → ∃ e ∈ p.o.after.toList, Region.binds .any e = true ∧ (j = e.on ∨ ∃ q ∈ l, q.i = e.on ∧ q.bef.testBit j = true)
  edge : ∀ p ∈ l, ∀ e ∈ p.o.after.toList, Region.binds .any e = true → e.on < p.i
  once : ∀ p ∈ l, ∀ q ∈ l, ∀ d, p.o.dst = some d → q.o.dst = some d → p = q
  look : ∀ p ∈ l, ∀ t, .tmp t ∈ p.o.op.operands.toList → ∀ q ∈ l, q.o.dst = some t → p.bef.testBit q.i = true ∨ q.bef.testBit p.i = true
  guard : ∀ p ∈ l, ∀ j b, p.o.guard = some (j, b) → p.bef.testBit j = true
  lin : LinFrom 0 l
  hards : HardsFrom none l

theorem plan_facts {ops : Array Oper} {l : List Plan} (h : planOf P ops.toList = some l) : PlanFacts P ops l := by
  unfold planOf at h
  split at h <;> (try (cases h; done))
  rename_i l' hl
  split at h <;> (try (cases h; done))
  rename_i hp
  split at h <;> (try (cases h; done))
  rename_i hh
  cases h
  obtain ⟨tail, e, hperm, hlin⟩ := order_spec _ _ _ _ _ hl
  simp only [List.reverse_nil, List.nil_append] at e
  subst e
  unfold plansOk at hp
  split at hp <;> (try (cases hp; done))
  rename_i ho
  have hm : ∀ p, p ∈ l ↔ p ∈ allPlans P ops.toList := fun p => hperm.mem_iff.symm
  have h1 := fun p hp' => (allB_iff _ _).1 hp p ((hm p).1 hp')
  refine ⟨hperm.nodup_iff.1 (all_nodup P _), by rw [← hperm.length_eq]; unfold allPlans; rw [length_plans P _ _ _ (length_befores _ _ _)]; simp, ?_, ?_, ?_, ?_, fun p hp' => edge_spec (h1 p hp'), ?_, ?_, fun p hp' j b hg => guard_spec (h1 p hp') hg, hlin, hards_spec hh⟩
  · intro p hp'
    obtain ⟨_, q1, _, q2⟩ := mem_all ((hm p).1 hp')
    exact ⟨by rw [← Array.getElem?_toList]; exact q1, q2⟩
  · intro i hi
    obtain ⟨p, q1, q2⟩ := all_mem (P := P) (os := ops.toList) (k := i) (by simpa using hi)
    exact ⟨p, (hm p).2 q1, q2⟩
  · intro p hp' q hq' e
    exact all_inj ((hm p).1 hp') ((hm q).1 hq') e
  · intro p hp' j hj
    obtain ⟨e, q1, q2, q3⟩ := all_bef ((hm p).1 hp') (edge_spec (h1 p hp')) hj
    refine ⟨e, q1, q2, q3.imp id ?_⟩
    rintro ⟨q, m1, m2⟩
    exact ⟨q, (hm q).2 m1, m2⟩
  · intro p hp' q hq' d hd hd'
    exact once_spec ho ((hm p).1 hp') ((hm q).1 hq') hd hd'
  · intro p hp' t ht q hq' hd
    exact look_spec (h1 p hp') ht ((hm q).1 hq') hd
end Go.Eng

set_option linter.constructorNameAsVariable false
set_option linter.unusedVariables false
set_option linter.unusedSimpArgs false
namespace Go.Eng
variable {P : Program} {γ : Gam}

/-- Whether an operation is wanted, as the ideal sees it. -/
def WantG (γ : Gam) (n : Nat) (ops : Array Oper) (o : Oper) (env : Env) (r : Bool) : Prop := ∀ (ρ : Rho) (a : Go.Act), a.tmps.size = n →
  (∀ j b t f g, o.guard = some (j, b) → (∃ oj, ops[j]? = some oj ∧ oj.dst = some t) → slotT n t = .mk f g → VR ρ γ (f env) (a.tmps.getD t undef)) → Region.wanted o (yielded ops a.tmps) = r

inductive Trace (P : Program) (γ : Gam) (n : Nat) (ops : Array Oper) : List Plan → List Pend → Env → St → Env → St → Prop where
  | nil (pend env s) : Trace P γ n ops [] pend env s env s
  | skip (p ps pend env s g env' s') (hw : WantG γ n ops p.o env false) (hg : outT n p.o.dst = .mk g) (ht : Trace P γ n ops ps pend (g undefI env) s env' s') : Trace P γ n ops (p :: ps) pend env s env' s'
  | pure (p ps pend env s g env' s' fa v) (hc : p.cls = .pure) (hw : WantG γ n ops p.o env true) (hg : outT n p.o.dst = .mk g) (hx : execT P n p.o.op = .mk fa) (hf : PureA fa) (hv : fa noExt noRec env s .ok = .ok v s)
      (ht : Trace P γ n ops ps pend (g v env) s env' s') : Trace P γ n ops (p :: ps) pend env s env' s'
  | read (p ps pend env s g env' s' fa v) (hc : p.cls = .read) (hw : WantG γ n ops p.o env true) (hg : outT n p.o.dst = .mk g) (hx : execT P n p.o.op = .mk fa) (hf : ReadA fa) (hv : fa noExt noRec env s .ok = .ok v s)
      (ht : Trace P γ n ops ps (⟨p.i, fa, v, env⟩ :: pend) (g v env) s env' s') : Trace P γ n ops (p :: ps) pend env s env' s'
  | made (p ps pend env s g env' s' v x) (hc : p.cls = .made) (hw : WantG γ n ops p.o env true) (hg : outT n p.o.dst = .mk g) (hx : x ≠ .dead)
      (hv : ∀ (ρ : Rho) (w : World) (a : Go.Act), ρ s.next = none → OpsR P γ n ρ env a p.o.op.operands.toList →
        ∃ v' ob q j, (execOp a.eval p.o).run P w = .ok (.value v') (pushed (dr j w) ob) ∧ q.blk = w.heap.size ∧ OR P (ρ.with s.next q) γ q x ob ∧ VR (ρ.with s.next q) γ v v')
      (ht : Trace P γ n ops ps pend (g v env) (s.new x) env' s') : Trace P γ n ops (p :: ps) pend env s env' s'
  | hard (p ps pend env s g env' s' v s1) (hc : p.cls = .hard) (hw : WantG γ n ops p.o env true) (hg : outT n p.o.dst = .mk g)
      (hv : ∀ (ρ : Rho) (w : World) (a : Go.Act), Rel P γ ρ s w → Glob P ρ → OpsR P γ n ρ env a p.o.op.operands.toList → Gives P γ ρ s w (execOp a.eval p.o) v s1)
      (hs : stillOk s1 p.bef pend = true) (ht : Trace P γ n ops ps (dropB p.bef pend) (g v env) s1 env' s') : Trace P γ n ops (p :: ps) pend env s env' s'

theorem want_of {n : Nat} {ops : Array Oper} {o : Oper} {env : Env} : match guardT n ops.toList o.guard with
    | .free => WantG γ n ops o env true
    | .never => WantG γ n ops o env false
    | .mk c b => (∀ k, c env ≠ .sym k) → WantG γ n ops o env (wantedV b (c env))
    | .no => True := by
  have h := fun (ρ : Rho) (a : Go.Act) hsz hsl => guard_sim (γ := γ) (n := n) (ρ := ρ) (env := env) (a := a) (ops := ops) (o := o) hsz hsl
  cases hg : guardT n ops.toList o.guard with
  | free => intro ρ a h1 h2; have := h ρ a h1 h2; rw [hg] at this; exact this
  | never => intro ρ a h1 h2; have := h ρ a h1 h2; rw [hg] at this; exact this
  | mk c b => intro hns ρ a h1 h2; have := h ρ a h1 h2; rw [hg] at this; exact this hns
  | no => trivial

theorem trace_of {n : Nat} {ops : Array Oper} {X : Ext} {rec : Rec} (hX : ExtOk P γ X) (hrec : RecOk P γ rec) : ∀ (l : List Plan), (∀ p ∈ l, p.cls = clsOf P p.o.op) → ∀ {F}, plansT P n ops.toList l = .mk F →
    ∀ {pend env s k v1 s1}, F X rec pend env s k = .ok v1 s1 → ∃ pend' env' s', k pend' env' s' = .ok v1 s1 ∧ Trace P γ n ops l pend env s env' s'
  | [], _, F, hF, pend, env, s, k, v1, s1, h => by cases hF; exact ⟨pend, env, s, h, .nil _ _ _⟩
  | p :: ps, hcl, F, hF, pend, env, s, k, v1, s1, h => by
    unfold plansT at hF
    cases h1 : planT P n ops.toList p with
    | mk f =>
      rw [h1] at hF
      simp only at hF
      cases h2 : plansT P n ops.toList ps with
      | mk G =>
        rw [h2] at hF; cases hF
        have ih := fun {pend env s k v1 s1} => trace_of (n := n) (ops := ops) hX hrec ps (fun q hq => hcl q (.tail _ hq)) h2 (pend := pend) (env := env) (s := s) (k := k) (v1 := v1) (s1 := s1)
        have hcls := hcl p (.head _)
        unfold planT at h1
        cases hx : execT P n p.o.op with
        | mk fa =>
          rw [hx] at h1
          simp only at h1
          cases hg : outT n p.o.dst with
          | no => rw [hg] at h1; cases h1; cases h
          | mk g =>
            rw [hg] at h1
            simp only at h1
            have hwant := want_of (γ := γ) (n := n) (ops := ops) (o := p.o) (env := env)
            -- it is run
            have run : WantG γ n ops p.o env true → ∀ {f'}, planAct p fa g = .mk f' → f' X rec pend env s (fun pend env s => G X rec pend env s k) = .ok v1 s1 →
                ∃ pend' env' s', k pend' env' s' = .ok v1 s1 ∧ Trace P γ n ops (p :: ps) pend env s env' s' := by
              intro hw f' hf' hr
              unfold planAct at hf'
              cases hc : p.cls with
              | hard =>
                rw [hc] at hf'; cases hf'
                dsimp only at hr
                obtain ⟨v, s', q1, q2⟩ := exec_ok (P := P) (γ := γ) (n := n) p.o.op fa hx X rec hX hrec env s _ v1 s1 hr
                split at q1 <;> (try (cases q1; done))
                rename_i hst
                obtain ⟨pend', env', s'', q3, q4⟩ := ih q1
                exact ⟨pend', env', s'', q3, .hard p ps pend env s g env' s'' v s' hc hw hg (fun ρ w a hr hgl ho => q2 ρ w a p.o rfl hr hgl ho) hst q4⟩
              | read =>
                rw [hc] at hf'; cases hf'
                have hra := cls_read (P := P) (n := n) p.o.op (hcls ▸ hc) fa hx
                obtain ⟨v, q1, q2⟩ := hra.1 X rec env s _ v1 s1 hr
                obtain ⟨pend', env', s'', q3, q4⟩ := ih q1
                exact ⟨pend', env', s'', q3, .read p ps pend env s g env' s'' fa v hc hw hg hx hra q2 q4⟩
              | pure =>
                rw [hc] at hf'; cases hf'
                have hra := cls_pure (P := P) (n := n) p.o.op (hcls ▸ hc) fa hx
                obtain ⟨v, q1, q2⟩ := hra.1 X rec env s _ v1 s1 hr
                obtain ⟨pend', env', s'', q3, q4⟩ := ih q1
                exact ⟨pend', env', s'', q3, .pure p ps pend env s g env' s'' fa v hc hw hg hx hra q2 q4⟩
              | made =>
                rw [hc] at hf'; cases hf'
                obtain ⟨v, x, q0, q1, q2⟩ := cls_made (P := P) (γ := γ) (n := n) p.o.op (hcls ▸ hc) fa hx X rec env s _ v1 s1 hr
                obtain ⟨pend', env', s'', q3, q4⟩ := ih q1
                exact ⟨pend', env', s'', q3, .made p ps pend env s g env' s'' v x hc hw hg q0 (fun ρ w a hn ho => q2 ρ w a p.o rfl hn ho) q4⟩
            have skip : WantG γ n ops p.o env false → G X rec pend (g undefI env) s k = .ok v1 s1 → ∃ pend' env' s', k pend' env' s' = .ok v1 s1 ∧ Trace P γ n ops (p :: ps) pend env s env' s' := by
              intro hw hr
              obtain ⟨pend', env', s'', q3, q4⟩ := ih hr
              exact ⟨pend', env', s'', q3, .skip p ps pend env s g env' s'' hw hg q4⟩
            unfold planGuard at h1
            cases hgd : guardT n ops.toList p.o.guard with
            | free =>
              rw [hgd] at h1 hwant
              exact run hwant h1 h
            | never =>
              rw [hgd] at h1 hwant; cases h1
              exact skip hwant h
            | no => rw [hgd] at h1; cases h1; cases h
            | mk c b =>
              rw [hgd] at h1 hwant
              simp only at h1 hwant
              cases hpa : planAct p fa g with
              | mk f' =>
                rw [hpa] at h1; cases h1
                obtain ⟨hns, h⟩ := guardR_inv h
                have hwant := hwant hns
                cases hb : wantedV b (c env) with
                | true => rw [hb] at h hwant; exact run hwant hpa h
                | false => rw [hb] at h hwant; exact skip hwant h
end Go.Eng
