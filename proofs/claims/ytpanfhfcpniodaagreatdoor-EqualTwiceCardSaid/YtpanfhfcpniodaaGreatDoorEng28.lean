/- A part of the proof: an interpreter of the program, shown right once, and the laws that it computes. -/
import Derived.Test.YtpanfhfcpniodaaGreatDoorEng27
set_option linter.constructorNameAsVariable false
set_option linter.unusedVariables false
set_option linter.unusedSimpArgs false
namespace Go.Eng
variable {P : Program} {γ : Gam}

theorem le_with_none {ρ : Rho} {b : Nat} {p : Pl} (h : ρ b = none) : Le ρ (ρ.with b p) := by
  intro x q hx
  rw [Rho.with_other]
  · exact hx
  · intro e; subst e; rw [h] at hx; cases hx

/-- What is there in the ideal comes to be. -/
theorem Rel.born {ρ : Rho} {s : St} {w : World} (h : Rel P γ ρ s w) {b : Nat} (hb : ρ b = none) (hlt : b < s.next) {p : Pl} (hp : p.blk = w.heap.size) {o : Obj} (ho : OR P (ρ.with b p) γ p (s.get b) o) :
    Rel P γ (ρ.with b p) s (pushed w o) := by
  have hle : Le ρ (ρ.with b p) := le_with_none hb
  refine ⟨?_, ?_, h.fresh, ?_⟩
  · intro b' q hb' hd
    by_cases e : b' = b
    · subst e
      rw [Rho.with_self] at hb'; cases hb'
      exact ⟨o, by rw [hp]; exact pushed_self w o, ho⟩
    · rw [Rho.with_other _ _ e] at hb'
      obtain ⟨o', h1, h2⟩ := h.live b' q hb' hd
      exact ⟨o', by rw [pushed_other (h.bound b' q hb').2]; exact h1, h2.mono hle⟩
  · intro b' q hb'
    rw [pushed_size]
    by_cases e : b' = b
    · subst e
      rw [Rho.with_self] at hb'; cases hb'
      exact ⟨hlt, by omega⟩
    · rw [Rho.with_other _ _ e] at hb'
      have := h.bound b' q hb'
      exact ⟨this.1, by omega⟩
  · intro b1 b2 p1 p2 h1 h2 d1 d2 hne
    by_cases e1 : b1 = b
    · subst e1
      rw [Rho.with_self] at h1; cases h1
      rw [Rho.with_other _ _ (Ne.symm hne)] at h2
      have := (h.bound b2 p2 h2).2
      omega
    · rw [Rho.with_other _ _ e1] at h1
      by_cases e2 : b2 = b
      · subst e2
        rw [Rho.with_self] at h2; cases h2
        have := (h.bound b1 p1 h1).2
        omega
      · rw [Rho.with_other _ _ e2] at h2
        exact h.apart b1 b2 p1 p2 h1 h2 d1 d2 hne

theorem Goes.born' {ρ₀ ρ : Rho} {s₀ s : St} {w₀ w : World} (h : Goes ρ₀ s₀ w₀ ρ s w) {b : Nat} (hb : ρ b = none) (h0 : s₀.next ≤ b) {p : Pl} (hp : p.blk = w.heap.size) (o : Obj) : Goes ρ₀ s₀ w₀ (ρ.with b p) s (pushed w o) where
  le := h.le.trans (le_with_none hb)
  unborn b' hb' hn := by
    obtain ⟨h1, h2⟩ := h.unborn b' hb' hn
    exact ⟨by rw [Rho.with_other _ _ (by omega)]; exact h1, h2⟩
  next := h.next
  others x hx hn := by
    rw [pushed_other (Nat.lt_of_lt_of_le hx h.size)]
    exact h.others x hx hn
  born b' q hb' hd hq := by
    by_cases e : b' = b
    · subst e
      rw [Rho.with_self] at hb'; cases hb'
      have := h.size
      omega
    · rw [Rho.with_other _ _ e] at hb'
      exact h.born b' q hb' hd hq
  size := by rw [pushed_size]; have := h.size; omega
  os := h.os
  tape := h.tape
  output := h.output

/-- What is not yet there may come ahead of its time. -/
theorem Rel.ahead {ρ : Rho} {s : St} {w : World} (h : Rel P γ ρ s w) (x : IObj) : Rel P γ ρ (s.new x) w ∧ ρ s.next = none := by
  have hn : ρ s.next = none := by
    cases hr : ρ s.next with
    | none => rfl
    | some p => have := (h.bound _ p hr).1; omega
  have hne : ∀ {b p}, ρ b = some p → b ≠ s.next := fun {b p} hb e => by subst e; rw [hn] at hb; cases hb
  refine ⟨⟨?_, ?_, ?_, ?_⟩, hn⟩
  · intro b p hb hd
    rw [get_new, if_neg (hne hb)] at hd ⊢
    exact h.live b p hb hd
  · intro b p hb
    have := h.bound b p hb
    exact ⟨by rw [next_new]; omega, this.2⟩
  · intro b hb
    rw [next_new] at hb
    rw [get_new, if_neg (by omega)]
    exact h.fresh b (by omega)
  · intro b1 b2 p1 p2 h1 h2 d1 d2 hne'
    rw [get_new, if_neg (hne h1)] at d1
    rw [get_new, if_neg (hne h2)] at d2
    exact h.apart b1 b2 p1 p2 h1 h2 d1 d2 hne'

theorem row_or {ρ : Rho} {w : World} {b e n : Nat} {l : List IV} {arr : Array Value} (hb : ρ b = none) (hv : VRs ρ γ l arr.toList) (hz : size P e = some n) :
    OR P (ρ.with b ⟨w.heap.size, 0, arr.size, n⟩) γ ⟨w.heap.size, 0, arr.size, n⟩ (rowOf l e 0) (.cells arr e) := by
  have hll := hv.length
  simp only [Array.length_toList] at hll
  refine .cells _ _ _ _ _ _ _ (by simp; omega) (by simp) ?_ (by intro j _ _ hj; simp at hj) (fun _ => ⟨.inl rfl, fun _ => rfl⟩) (fun _ => rfl) hz
  intro j hj
  rw [get_wrC, dif_pos (by omega)]
  have hk : l[j - 0]? = some (l[j - 0]'(by omega)) := List.getElem?_eq_getElem (by omega)
  obtain ⟨v', hv1, hv2⟩ := hv.get hk
  refine ⟨v', ?_, hv2.mono (le_with_none hb)⟩
  simp only [Nat.zero_add]
  simpa using hv1

/-- A world that may have drawn. -/
def dr (j : Bool) (w : World) : World := match j with
  | true => Eng.drawn w
  | false => w
theorem dr_size (j : Bool) (w : World) : (dr j w).heap.size = w.heap.size := by cases j <;> rfl
theorem Rel.dr {ρ : Rho} {s : St} {w : World} (h : Rel P γ ρ s w) (j : Bool) : Rel P γ ρ s (Eng.dr j w) := by
  cases j
  · exact h
  · exact h.drawn
theorem Goes.dr {ρ₀ ρ : Rho} {s₀ s : St} {w₀ w : World} (h : Goes ρ₀ s₀ w₀ ρ s w) (j : Bool) : Goes ρ₀ s₀ w₀ ρ s (Eng.dr j w) := by
  cases j
  · exact h
  · exact h.trans (Goes.drawn ρ s w)
/-- It makes a new block, whenever it is done. -/
def MadeAct (P : Program) (γ : Gam) (n : Nat) (op : Op) (A : Eng.Act) : Prop := ∀ fa, A = .mk fa → ∀ X rec env s k v1 s1, fa X rec env s k = .ok v1 s1 → ∃ v x, x ≠ .dead ∧ k v (s.new x) = .ok v1 s1 ∧
  ∀ (ρ : Rho) (w : World) (a : Go.Act) (o : Oper), o.op = op → ρ s.next = none → OpsR P γ n ρ env a op.operands.toList →
    ∃ v' ob p j, (execOp a.eval o).run P w = .ok (.value v') (pushed (dr j w) ob) ∧ p.blk = w.heap.size ∧ OR P (ρ.with s.next p) γ p x ob ∧ VR (ρ.with s.next p) γ v v'

theorem madeAct_no {n : Nat} {op : Op} : MadeAct P γ n op noAct := by
  intro fa hf X rec env s k v1 s1 h
  cases hf; cases h

theorem rowOf_ne (l : List IV) (e t : Nat) : rowOf l e t ≠ .dead := by intro h; cases h

section ops
variable {n : Nat}
theorem alloc_made (e : Nat) : MadeAct P γ n (.alloc e) (xAlloc P e) := by
  unfold xAlloc
  split <;> try exact madeAct_no
  rename_i z hz
  intro fa hf X rec env s k v1 s1 h
  cases hf
  refine ⟨_, _, rowOf_ne z.cells e 0, h, fun ρ w a o ho hb hops => ?_⟩
  obtain ⟨m, hm⟩ := size_of_zero hz
  obtain ⟨v, hv, hrun⟩ := run_zeroValue hz
  refine ⟨_, .cells v.cells e, ⟨w.heap.size, 0, v.cells.size, m⟩, false, ?_, rfl, row_or hb (VR.ofValue (ρ := ρ) (γ := γ) hv).cells hm, .ptr _ _ _ (Rho.with_self _ _ _)⟩
  simp only [dr, execOp, ho, Instr.alloc, Sem.run_bind, hrun, Result.andThen_ok, newVar, run_newRow, Sem.run_pure]

theorem box_made (e : Nat) (x : Operand) : MadeAct P γ n (.box e x) (xBox P n e x) := by
  unfold xBox
  split <;> try exact madeAct_no
  rename_i f hf
  split <;> try exact madeAct_no
  rename_i z hz
  intro fa hfa X rec env s k v1 s1 h
  cases hfa
  refine ⟨_, _, rowOf_ne (f env).cells e 0, h, fun ρ w a o ho hb hops => ?_⟩
  have hx := hops x (.head _) f hf
  refine ⟨_, .cells (a.eval x).cells e, ⟨w.heap.size, 0, (a.eval x).cells.size, z⟩, false, ?_, rfl, row_or hb hx.cells hz, .ptr _ _ _ (Rho.with_self _ _ _)⟩
  simp only [dr, execOp, ho, Instr.box, Sem.run_bind, Result.andThen_ok, newVar, run_newRow, Sem.run_pure]

theorem buildSlice_made (t len : Nat) (ps : Array (Nat × Operand)) : MadeAct P γ n (.buildSlice t len ps) (xBuildSlice P n t len ps.toList) := by
  unfold xBuildSlice
  split <;> try exact madeAct_no
  rename_i f hf
  split <;> try exact madeAct_no
  rename_i e he
  split <;> try exact madeAct_no
  rename_i z hz
  split <;> try exact madeAct_no
  rename_i k hk
  split <;> try exact madeAct_no
  rename_i hb
  simp only [Bool.and_eq_true] at hb
  intro fa hfa X rec env s q v1 s1 h
  cases hfa
  dsimp only at h
  obtain ⟨v, s', h1, h2⟩ := bind_ok h
  cases hc : Eng.fill (fun i => some (i * k, k)) (rep len z.cells) (f env) with
  | none => rw [hc] at h1; cases h1
  | some c =>
    rw [hc] at h1
    cases h1
    refine ⟨_, _, rowOf_ne c e 0, h2, fun ρ w a o ho hbn hops => ?_⟩
    have hp := OpsR.evp (l := ps.toList) (fun x hx => hops x (by simpa [Op.operands] using hx)) hf
    have hle := Nat.le_of_ble_eq_true hb.1
    have hzl := Nat.eq_of_beq_eq_true hb.2
    have hu := sliceT_eq he
    obtain ⟨zv, hzv, hzrun⟩ := run_zeroValue hz
    have hzr := (VR.ofValue (ρ := ρ) (γ := γ) hzv).cells
    have hzs : zv.cells.size = k := by have := hzr.length; simp at this; omega
    have hnb : ¬ (len * k > 2 ^ 24) := by omega
    let zs : Array Value := if len * k = 0 then #[] else zv.cells
    have hrow : VRs ρ γ (rep len z.cells) ((Array.range (len * k)).map (zs[· % zs.size]!)).toList := by
      by_cases h0 : len * k = 0
      · have : rep len z.cells = [] := List.length_eq_zero_iff.1 (by rw [length_rep, hzl, h0])
        rw [this, h0]; simpa using VRs.nil
      · have : zs = zv.cells := if_neg h0
        rw [this]
        exact rep_sim hzr (by rw [hzs])
    obtain ⟨r', g1, g2⟩ := fill_sim hrow hp.1 hp.2 hc
    refine ⟨.slice (some ⟨w.heap.size, 0, none⟩) len len, .cells r' e, ⟨w.heap.size, 0, r'.size, k⟩, false, ?_, rfl, row_or hbn g2 hk, ?_⟩
    · simp only [dr, execOp, ho, Instr.buildSlice, Sem.run_bind, run_underlying hu, Result.andThen_ok, run_sizeOf hk, if_neg hnb]
      by_cases h0 : len * k = 0
      · have hz0 : zs = #[] := if_pos h0
        rw [hz0] at g1
        simp only [if_pos h0, Sem.run_bind, Sem.run_pure, Result.andThen_ok]
        have g1' : Instr.fill (fun i => some (i * k, k)) ((Array.range (len * k)).map ((#[] : Array Value)[· % (#[] : Array Value).size]!)) (ps.map fun (i, x) => (i, a.eval x)).toList = some r' := by simpa using g1
        simp only [g1', Sem.run_bind, run_newRow, Result.andThen_ok, Sem.run_pure]
      · have hz0 : zs = zv.cells := if_neg h0
        rw [hz0] at g1
        simp only [if_neg h0, Sem.run_bind, hzrun, Sem.run_pure, Result.andThen_ok]
        have g1' : Instr.fill (fun i => some (i * k, k)) ((Array.range (len * k)).map (zv.cells[· % zv.cells.size]!)) (ps.map fun (i, x) => (i, a.eval x)).toList = some r' := by simpa using g1
        simp only [g1', Sem.run_bind, run_newRow, Result.andThen_ok, Sem.run_pure]
    · have := VR.slx (ρ := ρ.with s.next ⟨w.heap.size, 0, r'.size, k⟩) (γ := γ) s.next 0 len len _ (Rho.with_self _ _ _)
      exact this

theorem toRow_run {e : Nat} (he : isByte P e = true) (b : ByteArray) {X : List IV} (hXl : X.length = b.size) (hX : ∀ ρ, VRs ρ γ X (b.data.toList.map fun c => Value.int .u8 c.toNat)) (w : World) : ∃ cap arr, b.size ≤ cap ∧
    (Conv.stringToBytes e b).run P w = .ok (.slice (some ⟨w.heap.size, 0, none⟩) b.size cap) (pushed (Eng.drawn w) (.cells arr e (arr.size, arr.size + 1))) ∧
    ∀ ρ : Rho, OR P ρ γ ⟨w.heap.size, 0, cap, 1⟩ (rowOf X e 1) (.cells arr e (arr.size, arr.size + 1)) := by
  obtain ⟨hu, hz⟩ := isByte_eq he
  have hcap : ∃ cap, b.size ≤ cap ∧ (choose (.appendCap b.size 0 e)).run P w = .ok cap (Eng.drawn w) :=
    ⟨b.size + w.tape w.drawn (.appendCap b.size 0 e) % (2 ^ 63 - b.size), Nat.le_add_right _ _, by simp only [run_choose, Question.forced, Bool.false_eq_true, if_false]; rfl⟩
  obtain ⟨cap, hle, hch⟩ := hcap
  generalize hw : Eng.drawn w = wd at hch
  have hsz : wd.heap.size = w.heap.size := by subst hw; rfl
  let elems : Array Value := b.data.map fun c => .int .u8 c.toNat
  let arr : Array Value := elems ++ Array.replicate (cap - b.size) (.int .u8 0)
  have hasz : arr.size = cap := by
    show (b.data.map _ ++ Array.replicate _ _).size = cap
    have : b.data.size = b.size := rfl
    simp; omega
  refine ⟨cap, arr, hle, ?_, fun ρ => ?_⟩
  · unfold Conv.stringToBytes
    simp only [Sem.run_bind, hch, Result.andThen_ok, run_newRow]
    rw [run_markStringish (pushed_self wd _)]
    simp only [Result.andThen_ok, Sem.run_pure, beq_self_eq_true, if_true, setRow_pushed]
    rw [hsz]
  · refine .cells _ _ _ _ _ _ _ (by rw [hXl]; show 0 + b.size ≤ cap; omega) (by show cap ≤ arr.size; omega) ?_ ?_ (fun hne => absurd rfl hne) (fun h0 => by cases h0) hz
    · intro j hj
      rw [hXl] at hj
      have hbl : X.length = b.size := hXl
      rw [get_wrC, dif_pos (by omega)]
      have hv := hX ρ
      have hk : X[j - 0]? = some (X[j - 0]'(by omega)) := List.getElem?_eq_getElem (by omega)
      obtain ⟨v', hv1, hv2⟩ := hv.get hk
      refine ⟨v', ?_, hv2⟩
      show arr[0 + j]? = _
      have hj2 : j < elems.size := by show j < (b.data.map _).size; have : b.data.size = b.size := rfl; simp; omega
      rw [Nat.zero_add, Array.getElem?_append_left hj2, ← hv1]
      show (b.data.map _)[j]? = _
      rw [Nat.sub_zero, Array.getElem?_map, List.getElem?_map, Array.getElem?_toList]
    · intro j hj1 hj2 hj3
      have hj2 : j < cap := hj2
      rw [hasz] at hj3
      omega
theorem conv_made {src dst : Nat} (x : Operand) (hc : clsConv (undI P src) (undI P dst) = .made) : MadeAct P γ n (.convert src dst x) (xConv P n src dst x) := by
  unfold xConv
  split <;> try exact madeAct_no
  rename_i f hf
  split <;> try exact madeAct_no
  rename_i us hs
  split <;> try exact madeAct_no
  rename_i ud hd
  rw [hs, hd] at hc
  intro fa hfa X rec env s k v1 s1 h
  cases hfa
  dsimp only at h
  obtain ⟨v, s', h1, h2⟩ := bind_ok h
  cases us <;> (try (cases hc; done)) <;> cases ud <;> (try (cases hc; done))
  rename_i e
  unfold convAt at h1
  cases hv : f env <;> rw [hv] at h1 <;> (try (cases h1; done))
  · rename_i b
    simp only at h1
    unfold toBytes at h1
    cases hb : isByte P e with
    | false => rw [hb] at h1; cases h1
    | true =>
      rw [hb] at h1
      cases h1
      refine ⟨_, _, rowOf_ne _ e 1, h2, fun ρ w a o ho hbn hops => ?_⟩
      have hx := hops x (.head _) f hf
      rw [hv] at hx
      generalize hy : a.eval x = y at hx
      obtain ⟨l, rfl, rfl⟩ : ∃ l : ByteArray, y = .string l ∧ b = l.data.toList.map UInt8.toNat := by
        cases hx with
        | str l _ hl => exact ⟨l, rfl, by first | exact hl | exact hl.symm⟩
      have hl : (l.data.toList.map UInt8.toNat).length = l.size := by simp
      obtain ⟨cap, arr, hle, hrun, hor⟩ := toRow_run (γ := γ) hb l (X := bytesI (l.data.toList.map UInt8.toNat)) (by rw [length_bytesI, hl]) (fun ρ => bytesI_sim l.data.toList) w
      obtain ⟨hu, _⟩ := isByte_eq hb
      refine ⟨.slice (some ⟨w.heap.size, 0, none⟩) l.size cap, _, ⟨w.heap.size, 0, cap, 1⟩, true, ?_, rfl, hor _, ?_⟩
      · simp only [execOp, ho, hy]
        unfold convert
        simp only [Sem.run_bind, run_underlying (undI_eq hs), run_underlying (undI_eq hd), Result.andThen_ok, run_underlying (undI_eq hu), hrun, Sem.run_pure]
        rfl
      · have hvl := VR.sli (ρ := ρ.with s.next ⟨w.heap.size, 0, cap, 1⟩) (γ := γ) s.next 0 l.size l.size cap 0 ⟨w.heap.size, 0, cap, 1⟩ (Rho.with_self _ _ _) (Nat.le_refl _) hle (.inl rfl) (by show 0 + cap * 1 ≤ cap; omega)
        rw [hl]
        exact hvl
  · rename_i b
    simp only at h1
    unfold toBytesS at h1
    cases hb : isByte P e with
    | false => rw [hb] at h1; cases h1
    | true =>
      rw [hb] at h1
      cases h1
      refine ⟨_, _, rowOf_ne _ e 1, h2, fun ρ w a o ho hbn hops => ?_⟩
      have hx := hops x (.head _) f hf
      rw [hv] at hx
      generalize hy : a.eval x = y at hx
      obtain ⟨l, rfl, hs1, hs2⟩ : ∃ l : ByteArray, y = .string l ∧ l.data.toList.map UInt8.toNat = b.map (den γ) ∧ ∀ c ∈ b, CodeOk γ c := by
        cases hx with
        | sstr l _ hl hc => exact ⟨l, rfl, hl, hc⟩
      have hl : b.length = l.size := by have := congrArg List.length hs1; simpa using this.symm
      obtain ⟨cap, arr, hle, hrun, hor⟩ := toRow_run (γ := γ) hb l (X := bytesS b) (by rw [length_bytesS, hl]) (fun ρ => bytesS_sim hs1 hs2) w
      obtain ⟨hu, _⟩ := isByte_eq hb
      refine ⟨.slice (some ⟨w.heap.size, 0, none⟩) l.size cap, _, ⟨w.heap.size, 0, cap, 1⟩, true, ?_, rfl, hor _, ?_⟩
      · simp only [execOp, ho, hy]
        unfold convert
        simp only [Sem.run_bind, run_underlying (undI_eq hs), run_underlying (undI_eq hd), Result.andThen_ok, run_underlying (undI_eq hu), hrun, Sem.run_pure]
        rfl
      · have hvl := VR.sli (ρ := ρ.with s.next ⟨w.heap.size, 0, cap, 1⟩) (γ := γ) s.next 0 l.size l.size cap 0 ⟨w.heap.size, 0, cap, 1⟩ (Rho.with_self _ _ _) (Nat.le_refl _) hle (.inl rfl) (by show 0 + cap * 1 ≤ cap; omega)
        rw [hl]
        exact hvl

theorem cls_made (op : Op) (h : clsOf P op = .made) : MadeAct P γ n op (execT P n op) := by
  cases op
  case convert src dst x => exact conv_made x h
  case call c =>
    exfalso
    change clsCall P c.callee c.argTypes = .made at h
    unfold clsCall at h
    split at h <;> (try (cases h; done))
    unfold clsBuiltin at h
    split at h <;> (try (cases h; done))
    split at h <;> cases h
  all_goals first
    | (cases h; done)
    | exact alloc_made _
    | exact box_made _ _
    | exact buildSlice_made _ _ _
end ops
end Go.Eng
