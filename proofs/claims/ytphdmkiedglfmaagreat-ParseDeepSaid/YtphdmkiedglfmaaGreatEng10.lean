/- A part of the proof: an interpreter of the program, shown right once, and the laws that it computes. -/
import Derived.Test.YtphdmkiedglfmaaGreatEng9
set_option linter.constructorNameAsVariable false
set_option linter.unusedVariables false
set_option linter.unusedSimpArgs false
namespace Go.Eng
theorem hiL_le (j : Nat) : hiL j ≤ 122 := by unfold hiL; split <;> omega
variable {P : Program} {γ : Gam}

/- runes -/
theorem nth_eq {α : Type} : ∀ (l : List α) (k : Nat), nth l k = l[k]?
  | [], k => by simp [nth]
  | x :: l, 0 => rfl
  | x :: l, k + 1 => by simp only [nth, List.getElem?_cons_succ]; exact nth_eq l k

theorem get_drop (s : ByteArray) (i k : Nat) : byteAt ((s.data.toList.map UInt8.toNat).drop i) k = (s.get! (i + k)).toNat := by
  unfold byteAt
  rw [nth_eq, List.getElem?_drop, List.getElem?_map]
  by_cases h : i + k < s.size
  · have h' : i + k < s.data.toList.length := by simpa using h
    rw [List.getElem?_eq_getElem h']
    have : s.get! (i + k) = s.data.toList[i + k] := by
      cases s with
      | mk d =>
        have hd : i + k < d.size := h
        simp [ByteArray.get!, hd]
    simp [this]
  · have h' : s.data.toList.length ≤ i + k := by simpa using h
    rw [List.getElem?_eq_none h']
    have : s.get! (i + k) = 0 := by
      cases s with
      | mk d =>
        have hd : ¬ i + k < d.size := h
        simp [ByteArray.get!, hd]; rfl
    simp [this]
theorem cont_drop (s : ByteArray) (i k : Nat) : isCont ((s.data.toList.map UInt8.toNat).drop i) k = (decide (i + k < s.size) && ((s.get! (i + k)).toNat / 64 == 2)) := by
  unfold isCont
  rw [nth_eq, List.getElem?_drop, List.getElem?_map]
  by_cases h : i + k < s.size
  · have h' : i + k < s.data.toList.length := by simpa using h
    rw [List.getElem?_eq_getElem h']
    have : s.get! (i + k) = s.data.toList[i + k] := by
      cases s with
      | mk d =>
        have hd : i + k < d.size := h
        simp [ByteArray.get!, hd]
    simp only [Option.map_some, this, h, decide_true, Bool.true_and]
    rw [Bool.eq_iff_iff]; simp
  · have h' : s.data.toList.length ≤ i + k := by simpa using h
    rw [List.getElem?_eq_none h']
    simp [h]

theorem decode_eq (s : ByteArray) (i : Nat) : decode ((s.data.toList.map UInt8.toNat).drop i) = Utf8.decode s i := by
  unfold decode Utf8.decode decodeMore
  simp only [get_drop, cont_drop]
  cases h : Nat.blt (s.get! (i + 0)).toNat 128 with
  | true =>
    have : (s.get! (i + 0)).toNat < 128 := by simpa [Nat.blt_eq] using h
    rw [if_pos this]
  | false =>
    have : ¬ (s.get! (i + 0)).toNat < 128 := by
      intro e
      have h2 : Nat.blt (s.get! (i + 0)).toNat 128 = true := by simpa [Nat.blt_eq] using e
      rw [h2] at h; cases h
    simp only [this, if_false]

theorem toNat_ofNat {n : Nat} (h : n < 256) : (UInt8.ofNat n).toNat = n := by
  simp [UInt8.toNat_ofNat']; omega

theorem encode_eq (r : Int) : (Utf8.encode r).data.toList.map UInt8.toNat = encode r := by
  unfold Utf8.encode encode
  have hc : (if Utf8.valid r then r.toNat else Utf8.runeError) < 0x110000 := by
    split
    · rename_i h
      unfold Utf8.valid at h
      simp only [Bool.or_eq_true, Bool.and_eq_true, decide_eq_true_eq] at h
      omega
    · decide
  generalize (if Utf8.valid r then r.toNat else Utf8.runeError) = c at hc
  simp only
  split
  · simp [toNat_ofNat (show c < 256 by omega)]
  · split
    · simp [UInt8.toNat_ofNat'] <;> omega --  + c / 64 < 256 by omega), toNat_ofNat (show 128 + c % 64 < 256 by omega)]
    · split
      · simp [UInt8.toNat_ofNat'] <;> omega --  + c / 4096 < 256 by omega), toNat_ofNat (show 128 + c / 64 % 64 < 256 by omega), toNat_ofNat (show 128 + c % 64 < 256 by omega)]
      · simp [UInt8.toNat_ofNat'] <;> omega --  + c / 262144 < 256 by omega), toNat_ofNat (show 128 + c / 4096 % 64 < 256 by omega), toNat_ofNat (show 128 + c / 64 % 64 < 256 by omega), toNat_ofNat (show 128 + c % 64 < 256 by omega)]

/- bytes -/
theorem bytesI_sim {ρ : Rho} : ∀ (l : List UInt8), VRs ρ γ (bytesI (l.map UInt8.toNat)) (l.map fun b => .int .u8 b.toNat)
  | [] => .nil
  | b :: l => .cons _ _ _ _ (.int _ _) (bytesI_sim l)
theorem length_bytesI : ∀ (l : List Nat), (bytesI l).length = l.length
  | [] => rfl
  | _ :: l => by simp [bytesI, length_bytesI l]

theorem bytesOfI_sim {ρ : Rho} : ∀ {l : List IV} {l' : List Value} {r : List Nat}, VRs ρ γ l l' → bytesOfI l = some r →
    l' = r.map (fun c => Value.int .u8 (Int.ofNat c)) ∧ (∀ c ∈ r, c < 256)
  | [], l', r, h, hr => by cases h; simp [bytesOfI] at hr; subst hr; simp
  | x :: l, l', r, h, hr => by
    cases h with
    | cons v v' _ l'' hv hs =>
      unfold bytesOfI at hr
      cases hb : byteI x with
      | none => simp [hb] at hr
      | some c =>
        simp only [hb] at hr
        cases hl : bytesOfI l with
        | none => simp [hl] at hr
        | some q =>
          simp only [hl] at hr; cases hr
          obtain ⟨h1, h2⟩ := bytesOfI_sim hs hl
          unfold byteI at hb
          split at hb <;> (try (cases hb; done))
          split at hb <;> (try (cases hb; done))
          rename_i hlt
          cases hb
          cases hv
          subst h1
          refine ⟨rfl, ?_⟩
          intro c' hc'
          cases hc' with
          | head => simpa [Nat.blt_eq] using hlt
          | tail _ hm => exact h2 c' hm

theorem isByte_eq {e : Nat} (h : isByte P e = true) : undI P e = some (.int .u8) ∧ size P e = some 1 := by
  unfold isByte at h
  split at h
  · rename_i hu
    split at h
    · rename_i hs; exact ⟨hu, hs⟩
    · cases h
  · cases h

/-- How a slice reads. -/
theorem VR.sl_inv {ρ : Rho} {b o n c : Nat} {x : Bool} {v' : Value} (h : VR ρ γ (.sl b o n c x) v') :
    ∃ p off c', ρ b = some p ∧ v' = .slice (some ⟨p.blk, off, none⟩) n c' ∧ (n = 0 ∨ off = p.shift + o) ∧ c ≤ c' ∧ (x = true → off = p.shift + o ∧ c' = c) ∧
      (x = false → n ≤ c ∧ (off = p.shift + o ∨ (c = 0 ∧ p.shift ≤ off)) ∧ off + c' * p.sz ≤ p.lim) := by
  cases h with
  | slx _ _ _ _ p h => exact ⟨p, _, c, h, rfl, .inr rfl, Nat.le_refl _, fun _ => ⟨rfl, rfl⟩, fun h => by cases h⟩
  | sli _ _ _ _ c' off p h hn hc ho hl => exact ⟨p, off, c', h, rfl, ho.elim .inr (fun h => .inl (by omega)), hc, (fun h => by cases h), fun _ => ⟨hn, ho, hl⟩⟩

/-- The cells of a slice. -/
theorem Rel.rdSl {ρ : Rho} {s : St} {w : World} (h : Rel P γ ρ s w) {b o n c : Nat} {x : Bool} {v' : Value} (hv : VR ρ γ (.sl b o n c x) v') {k : Nat} (hk : n = 0 → k = 0) {l : List IV} (hr : s.rd b o k = some l) :
    ∃ a c' l', v' = .slice (some a) n c' ∧ (loadCells a k).run P w = .ok l' w ∧ VRs ρ γ l l'.toList := by
  obtain ⟨p, off, c', hb, rfl, hoff, _⟩ := hv.sl_inv
  obtain ⟨arr, e, fr, h1, h2, h3⟩ := h.rd hb hr
  by_cases hz : n = 0
  · have hk0 := hk hz
    subst hk0
    obtain ⟨_, _, _, _, _, _, _, rfl⟩ := rd_some hr
    exact ⟨_, c', #[], rfl, rfl, .nil⟩
  · have : off = p.shift + o := hoff.resolve_left hz
    subst this
    exact ⟨_, c', _, rfl, run_loadCells h1 h2, h3⟩
end Go.Eng

set_option linter.constructorNameAsVariable false
set_option linter.unusedVariables false
set_option linter.unusedSimpArgs false
namespace Go.Eng
variable {P : Program} {γ : Gam}

theorem run_newRow (w : World) (e : TypeId) (arr : Array Value) : (newRow e arr).run P w = .ok ⟨w.heap.size, 0, none⟩ (pushed w (.cells arr e)) := by
  unfold newRow; simp only [Sem.run_bind, run_newObj, Result.andThen_ok, Sem.run_pure]; rfl

theorem freeze_eq {w : World} {b off n : Nat} {arr : Array Value} {e : Nat} {fr : Nat × Nat} (h : w.heap[b]? = some (.cells arr e fr)) (hn : n ≠ 0) :
    w.freeze ⟨b, off, none⟩ n = setRow w b (.cells arr e (if fr.1 == fr.2 then (off, off + n) else (min fr.1 off, max fr.2 (off + n)))) := by
  unfold World.freeze setRow
  rw [if_neg hn]
  congr 1
  apply Array.ext_getElem?
  intro i
  rw [Array.getElem?_modify, Array.getElem?_setIfInBounds]
  by_cases hi : b = i
  · subst hi
    have hlt := lt_of_get h
    have hg : w.heap[b] = .cells arr e fr := by simpa [Array.getElem?_eq_getElem hlt] using h
    obtain ⟨lo, hi⟩ := fr
    simp [hlt, hg]
  · simp [hi]

theorem setRow_pushed (w : World) (o o' : Obj) : setRow (pushed w o) w.heap.size o' = pushed w o' := by
  unfold setRow pushed
  congr 1
  apply Array.ext_getElem?
  intro i
  rw [Array.getElem?_setIfInBounds, Array.getElem?_push, Array.getElem?_push]
  by_cases hi : w.heap.size = i
  · subst hi; simp
  · simp [hi, Ne.symm hi]

theorem run_markStringish {w : World} {b off : Nat} {arr : Array Value} {e : Nat} {fr : Nat × Nat} (h : w.heap[b]? = some (.cells arr e fr)) :
    (markStringish ⟨b, off, none⟩).run P w = .ok () (setRow w b (.cells arr e (if fr.1 == fr.2 then (arr.size, arr.size + 1) else (min fr.1 arr.size, max fr.2 (arr.size + 1))))) := by
  unfold markStringish
  simp only [Sem.run_bind, run_shape, shape_eq h, Result.andThen_ok, run_freeze, freeze_eq h (by decide : (1 : Nat) ≠ 0)]

theorem toRow_sim {ρ : Rho} {s : St} {w : World} {e : Nat} {b : ByteArray} {X : List IV} (h : Rel P γ ρ s w) (hb : isByte P e = true) (hXl : X.length = b.size) (hX : ∀ ρ, VRs ρ γ X (b.data.toList.map fun c => Value.int .u8 c.toNat)) :
    Yields P γ ρ s w (Conv.stringToBytes e b) (.sl s.next 0 b.size b.size false) (s.new (rowOf X e 1)) := by
  obtain ⟨hu, hz⟩ := isByte_eq hb
  have hcap : ∃ cap, b.size ≤ cap ∧ (choose (.appendCap b.size 0 e)).run P w = .ok cap (drawn w) :=
    ⟨b.size + w.tape w.drawn (.appendCap b.size 0 e) % (2 ^ 63 - b.size), Nat.le_add_right _ _, by simp only [run_choose, Question.forced, Bool.false_eq_true, if_false]; rfl⟩
  obtain ⟨cap, hle, hch⟩ := hcap
  have hd := h.drawn
  generalize hw : drawn w = wd at hd hch
  have hdg : Goes ρ s w ρ s wd := hw ▸ Goes.drawn ρ s w
  -- the new block
  let elems : Array Value := b.data.map fun c => .int .u8 c.toNat
  let arr : Array Value := elems ++ Array.replicate (cap - b.size) (.int .u8 0)
  have hasz : arr.size = cap := by
    show (b.data.map _ ++ Array.replicate _ _).size = cap
    have : b.data.size = b.size := rfl
    simp; omega
  have hrun : (Conv.stringToBytes e b).run P w = .ok (.slice (some ⟨wd.heap.size, 0, none⟩) b.size cap) (pushed wd (.cells arr e (arr.size, arr.size + 1))) := by
    unfold Conv.stringToBytes
    simp only [Sem.run_bind, hch, Result.andThen_ok, run_newRow]
    rw [run_markStringish (pushed_self wd _)]
    simp only [Result.andThen_ok, Sem.run_pure, beq_self_eq_true, if_true, setRow_pushed]
    rfl
  let p : Pl := ⟨wd.heap.size, 0, cap, 1⟩
  have hle' := hd.le_with p
  obtain ⟨h1, h2⟩ := hd.new (p := p) rfl (x := rowOf X e 1) (o := .cells arr e (arr.size, arr.size + 1)) (by
    refine .cells _ _ _ _ _ _ _ (by rw [hXl]; show 0 + b.size ≤ cap; omega) (by show cap ≤ arr.size; omega) ?_ ?_ (fun hne => absurd rfl hne) (fun h0 => by cases h0) hz
    · intro j hj
      rw [hXl] at hj
      have hbl : X.length = b.size := hXl
      rw [get_wrC, dif_pos (by omega)]
      have hv := hX (ρ.with s.next p)
      have hk : (X)[j - 0]? = some ((X)[j - 0]'(by omega)) := List.getElem?_eq_getElem (by omega)
      obtain ⟨v', hv1, hv2⟩ := hv.get hk
      refine ⟨v', ?_, hv2⟩
      show arr[0 + j]? = _
      have hj2 : j < elems.size := by show j < (b.data.map _).size; have : b.data.size = b.size := rfl; simp; omega
      rw [Nat.zero_add, Array.getElem?_append_left hj2, ← hv1]
      show (b.data.map _)[j]? = _
      rw [Nat.sub_zero, Array.getElem?_map, List.getElem?_map, Array.getElem?_toList]
    · intro j hj1 hj2 hj3
      have : p.lim = cap := rfl
      rw [hasz] at hj3
      omega)
  refine ⟨_, _, _, hrun, hdg.trans h2, h1, ?_⟩
  have hvl := VR.sli (ρ := ρ.with s.next p) (γ := γ) s.next 0 b.size b.size cap 0 p (Rho.with_self _ _ _) (Nat.le_refl _) hle (.inl rfl) (by show 0 + cap * 1 ≤ cap; omega)
  exact hvl

theorem toBytes_sim {ρ : Rho} {s s' : St} {w : World} {e : Nat} {b : ByteArray} {v : IV} (h : Rel P γ ρ s w) (hr : toBytes P e (b.data.toList.map UInt8.toNat) s = .ok v s') :
    isByte P e = true ∧ Yields P γ ρ s w (Conv.stringToBytes e b) v s' := by
  unfold toBytes at hr
  cases hb : isByte P e with
  | false => rw [hb] at hr; cases hr
  | true =>
    rw [hb] at hr
    refine ⟨rfl, ?_⟩
    simp only at hr
    injection hr with hv hs
    subst hv hs
    have hl : (b.data.toList.map UInt8.toNat).length = b.size := by simp
    rw [hl]
    exact toRow_sim h hb (by rw [length_bytesI, hl]) (fun ρ => bytesI_sim b.data.toList)
theorem codeI_sim {ρ : Rho} {c : Nat} {x : UInt8} (hc : CodeOk γ c) (h : x.toNat = den γ c) : VR ρ γ (codeI c) (.int .u8 x.toNat) := by
  unfold codeI
  cases hb : Nat.blt c 256 with
  | true =>
    have hlt : c < 256 := by simpa [Nat.blt_eq] using hb
    unfold den at h
    rw [if_pos hlt] at h
    rw [h]
    exact .int _ _
  | false =>
    have hlt : ¬ c < 256 := by intro hj; rw [← Nat.blt_eq] at hj; rw [hj] at hb; cases hb
    rcases hc with hc | ⟨_, h2, hl⟩
    · exact absurd hc hlt
    · obtain ⟨n, n1, n2, g1, g2, g3⟩ := hl
      have e : 1000 + (c - 256) = Nat.add 744 c := by show _ = 744 + c; omega
      rw [e] at g1
      have hn : x.toNat = n := by
        rw [h]
        unfold den denL
        rw [if_neg hlt, e, g1]
        simp
      rw [hn, ← g1]
      refine .sym _ (by rw [g1]; rfl) (fun h => ?_) (fun h h' => ?_) (fun _ _ => ?_) (fun h => absurd h (by have : Nat.add 744 c = 744 + c := rfl; omega))
      · have : Nat.add 744 c = 744 + c := rfl
        omega
      · have : Nat.add 744 c = 744 + c := rfl
        omega
      · have e2 : Nat.add 744 c % 1000 = c - 256 := by have : Nat.add 744 c = 744 + c := rfl; omega
        rw [e2]
        exact ⟨n, n1, n2, by rw [e]; exact g1, g2, g3⟩
theorem bytesS_sim {ρ : Rho} : ∀ {l : List Nat} {bs : List UInt8}, bs.map UInt8.toNat = l.map (den γ) → (∀ c ∈ l, CodeOk γ c) → VRs ρ γ (bytesS l) (bs.map fun c => Value.int .u8 c.toNat)
  | [], [], _, _ => .nil
  | [], _ :: _, h, _ => by simp at h
  | _ :: _, [], h, _ => by simp at h
  | c :: l, x :: bs, h, hc => by
    simp only [List.map_cons, List.cons.injEq] at h
    exact .cons _ _ _ _ (codeI_sim (hc c (by simp)) h.1) (bytesS_sim h.2 (fun d hd => hc d (by simp [hd])))
theorem length_bytesS : ∀ (l : List Nat), (bytesS l).length = l.length
  | [] => rfl
  | _ :: l => by simp [bytesS, length_bytesS l]
theorem toBytesS_sim {ρ : Rho} {s s' : St} {w : World} {e : Nat} {b : ByteArray} {l : List Nat} {v : IV} (h : Rel P γ ρ s w) (hs : SR γ l b) (hr : toBytesS P e l s = .ok v s') :
    isByte P e = true ∧ Yields P γ ρ s w (Conv.stringToBytes e b) v s' := by
  unfold toBytesS at hr
  cases hb : isByte P e with
  | false => rw [hb] at hr; cases hr
  | true =>
    rw [hb] at hr
    refine ⟨rfl, ?_⟩
    simp only at hr
    injection hr with hv hs'
    subst hv hs'
    have hl : l.length = b.size := by have := congrArg List.length hs.1; simpa using this.symm
    rw [hl]
    exact toRow_sim h hb (by rw [length_bytesS, hl]) (fun ρ => bytesS_sim hs.1 hs.2)

theorem strish_sim {ρ : Rho} {s s' : St} {w : World} {b o n c : Nat} {ex : Bool} {x' : Value} {v : IV} (h : Rel P γ ρ s w) (hx : VR ρ γ (.sl b o n c ex) x') (hr : strish s b (.sl b o n c ex) = .ok v s') :
    v = .sl b o n c ex ∧ ∃ a n' c' w', x' = .slice (some a) n' c' ∧ (markStringish a).run P w = .ok () w' ∧ Goes ρ s w ρ s' w' ∧ Rel P γ ρ s' w' := by
  obtain ⟨p, off, c', hb, rfl, hoff, _⟩ := hx.sl_inv
  unfold strish at hr
  split at hr
  · rename_i l len e hg
    injection hr with hv hs
    subst hv hs
    obtain ⟨arr, fr, h1, h2⟩ := h.row hb hg
    cases h2 with
    | cells _ _ _ _ _ _ _ hl' ha hc hf hs htg hz =>
      obtain ⟨_, hs2⟩ := hs (by decide)
      have hfr := hs2 rfl
      refine ⟨rfl, _, _, _, _, rfl, run_markStringish h1, ?_⟩
      rw [if_pos (by simp [hfr])]
      have hput := h.put (x := .cells l len e 0 1) (o := .cells arr e (arr.size, arr.size + 1)) hb (by rw [hg]; exact fun h => h)
        (.cells _ _ _ _ _ _ _ hl' ha hc (fun j hj1 hj2 hj3 => by have : p.lim ≤ arr.size := ha; omega) (fun hne => absurd rfl hne) (fun h0 => by cases h0) hz)
      exact ⟨hput.2, hput.1⟩
  · cases hr

theorem bytesToString_loop {w : World} : ∀ (r : List Nat) (acc : ByteArray),
    (forIn (r.map fun c => Value.int .u8 (Int.ofNat c)) acc fun c (s : ByteArray) => (do
      match c with
      | .int .u8 n => pure (ForInStep.yield (s.push (UInt8.ofNat n.toNat)))
      | _ => stuck "bytesToString: byte expected" : Sem (ForInStep ByteArray))).run P w = .ok (r.foldl (fun s c => s.push (UInt8.ofNat c)) acc) w := by
  intro r
  induction r with
  | nil => intro acc; rfl
  | cons c r ih => intro acc; simp only [List.map_cons, List.forIn_cons, Sem.run_bind, Sem.run_pure, Result.andThen_ok, List.foldl_cons]; exact ih _

theorem foldl_push : ∀ (r : List Nat) (acc : ByteArray), (∀ c ∈ r, c < 256) → (r.foldl (fun s c => s.push (UInt8.ofNat c)) acc).data.toList.map UInt8.toNat = acc.data.toList.map UInt8.toNat ++ r
  | [], acc, _ => by simp
  | c :: r, acc, h => by
    rw [List.foldl_cons, foldl_push r _ (fun x hx => h x (by simp [hx]))]
    have : (acc.push (UInt8.ofNat c)).data = acc.data.push (UInt8.ofNat c) := rfl
    rw [this]
    simp [toNat_ofNat (h c (by simp))]

theorem code_facts {j c : Nat} (h1 : 1000 ≤ j) (h2 : j < 2000) (h : c = j - 744) : 256 ≤ c ∧ c < 1256 ∧ ¬ c < 256 ∧ 1000 + (c - 256) = j ∧ 2000 + (c - 256) = 2000 + j % 1000 ∧ 3000 + (c - 256) = 3000 + j % 1000 ∧ 1000 + j % 1000 = j ∧ j < 4000 := by omega
theorem code_mod {j c : Nat} (h1 : 1000 ≤ j) (h2 : j < 2000) (h : c = j - 744) : j % 1000 = c - 256 := by omega
theorem codesOf_sim {ρ : Rho} : ∀ {l : List IV} {l' : List Value} {r : List Nat}, VRs ρ γ l l' → codesOf l = some r →
    ∃ bs : List Nat, l' = bs.map (fun c => Value.int .u8 (Int.ofNat c)) ∧ (∀ c ∈ bs, c < 256) ∧ bs = r.map (den γ) ∧ ∀ c ∈ r, CodeOk γ c
  | [], l', r, h, hr => by cases h; cases hr; exact ⟨[], rfl, by simp, rfl, by simp⟩
  | x :: l, l', r, h, hr => by
    cases h with
    | cons v v' _ l'' hv hs =>
      unfold codesOf at hr
      cases hb : codeOf x with
      | none => simp [hb] at hr
      | some c =>
        simp only [hb] at hr
        cases hl : codesOf l with
        | none => simp [hl] at hr
        | some q =>
          simp only [hl] at hr; cases hr
          obtain ⟨bs, h1, h2, h3, h4⟩ := codesOf_sim hs hl
          have key : ∃ d : Nat, v' = .int .u8 (Int.ofNat d) ∧ d < 256 ∧ d = den γ c ∧ CodeOk γ c := by
            unfold codeOf at hb
            split at hb <;> (try (cases hb; done))
            · split at hb <;> (try (cases hb; done))
              rename_i hlt
              rw [Nat.blt_eq] at hlt
              cases hb
              cases hv
              exact ⟨_, rfl, hlt, by unfold den; rw [if_pos hlt], .inl hlt⟩
            · rename_i j
              cases hj : Bool.and (Nat.ble 1000 j) (Nat.blt j 2000) with
              | false => rw [hj] at hb; exact absurd hb (by simp)
              | true =>
              rw [hj] at hb
              have hj1 : 1000 ≤ j := Nat.le_of_ble_eq_true ((Bool.and_eq_true _ _).mp hj).1
              have hj2 : j < 2000 := by have := ((Bool.and_eq_true _ _).mp hj).2; rw [Nat.blt_eq] at this; exact this
              have hcj : Nat.sub j 744 = c := Option.some.inj hb
              have hcj2 : c = j - 744 := hcj.symm
              clear hcj hb
              cases hv with
              | sym _ hk hki hks hkl hkr =>
                obtain ⟨f1, f2, f3, f4, f5, f6, f7, f8⟩ := code_facts hj1 hj2 hcj2
                obtain ⟨n, n1, n2, g1, g2, g3⟩ := hkl hj1 f8
                rw [f7] at g1
                have f9 : j % 1000 = c - 256 := code_mod hj1 hj2 hcj2
                have h256 : n < 256 := Nat.lt_of_le_of_lt (Nat.le_trans n2 (hiL_le _)) (show 122 < 256 by decide)
                refine ⟨n, g1, h256, ?_, .inr ⟨f1, f2, n, n1, (f9 ▸ n2), ?_, ?_, ?_⟩⟩
                · unfold den denL
                  rw [if_neg f3, f4, g1]
                  simp
                · rw [f4]; exact g1
                · rw [f5]; exact g2
                · rw [f6]; exact g3
          obtain ⟨d, rfl, d1, d2, d3⟩ := key
          refine ⟨d :: bs, by rw [h1]; rfl, ?_, by rw [h3, d2]; rfl, ?_⟩
          · intro x hx
            rcases List.mem_cons.1 hx with rfl | hx
            · exact d1
            · exact h2 x hx
          · intro x hx
            rcases List.mem_cons.1 hx with rfl | hx
            · exact d3
            · exact h4 x hx
theorem ofBytes_sim {ρ : Rho} {s s' : St} {w : World} {e : Nat} {x v : IV} {x' : Value} (h : Rel P γ ρ s w) (hx : VR ρ γ x x') (hr : ofBytes P e x s = .ok v s') :
    isByte P e = true ∧ Yields P γ ρ s w (Conv.bytesToString x') v s' := by
  unfold ofBytes at hr
  cases hb : isByte P e with
  | false => rw [hb] at hr; cases hr
  | true =>
    rw [hb] at hr
    refine ⟨rfl, ?_⟩
    cases x <;> simp only at hr <;> (try (cases hr; done))
    · cases hx
      cases hr
      exact Yields.same h rfl (.str _ _ rfl)
    · rename_i b o n c ex
      unfold strOfBytes at hr
      cases hrd : s.rd b o n with
      | none => rw [hrd] at hr; cases hr
      | some l =>
        rw [hrd] at hr
        simp only at hr
        cases hbs : bytesOfI l with
        | none =>
          rw [hbs] at hr
          simp only at hr
          cases hcs : codesOf l with
          | none => rw [hcs] at hr; cases hr
          | some r =>
            rw [hcs] at hr
            simp only at hr
            cases hr
            obtain ⟨a, c', l', rfl, h1, h2⟩ := h.rdSl hx (fun h => h) hrd
            obtain ⟨bs, h3, h4, h5, h6⟩ := codesOf_sim h2 hcs
            refine Yields.same h ?_ (.sstr (bs.foldl (fun s c => s.push (UInt8.ofNat c)) .empty) r ?_ h6)
            · unfold Conv.bytesToString
              simp only [Sem.run_bind, h1, Result.andThen_ok]
              rw [← Array.forIn_toList, h3]
              have := bytesToString_loop (P := P) (w := w) bs .empty
              refine Eq.trans (congrArg (fun q => Result.andThen q _) this) ?_
              rfl
            · rw [foldl_push bs _ h4, ← h5]; simp
        | some r =>
          rw [hbs] at hr
          simp only at hr
          cases hr
          obtain ⟨a, c', l', rfl, h1, h2⟩ := h.rdSl hx (fun h => h) hrd
          obtain ⟨h3, h4⟩ := bytesOfI_sim h2 hbs
          refine Yields.same h ?_ (.str (r.foldl (fun s c => s.push (UInt8.ofNat c)) .empty) r ?_)
          · unfold Conv.bytesToString
            simp only [Sem.run_bind, h1, Result.andThen_ok]
            rw [← Array.forIn_toList, h3]
            have := bytesToString_loop (P := P) (w := w) r .empty
            refine Eq.trans (congrArg (fun q => Result.andThen q _) this) ?_
            rfl
          · rw [foldl_push r _ h4]; simp
end Go.Eng

set_option linter.constructorNameAsVariable false
set_option linter.unusedVariables false
set_option linter.unusedSimpArgs false
namespace Go.Eng
variable {P : Program} {γ : Gam}

theorem run_seenAt {w : World} {b off : Nat} {arr : Array Value} {e : Nat} {fr : Nat × Nat} (h : w.heap[b]? = some (.cells arr e fr)) : (Conv.seenAt ⟨b, off, none⟩).run P w = .ok ⟨b, off, none⟩ w := by
  unfold Conv.seenAt viewAt
  simp only [Sem.run_bind, run_shape, shape_eq h, Result.andThen_ok, Option.isSome_some, if_true, Sem.run_pure]
theorem run_cellsIn {w : World} {b : Nat} {arr : Array Value} {e : Nat} {fr : Nat × Nat} (h : w.heap[b]? = some (.cells arr e fr)) : (cellsIn b).run P w = .ok (some arr.size) w := by
  unfold cellsIn
  simp only [Sem.run_bind, run_shape, shape_eq h, Result.andThen_ok, Sem.run_pure]

theorem cellsOf_eq {e n : Nat} (h : size P e = some n) : P.cellsOf e = n := by
  obtain ⟨i, hi, hn⟩ := size_eq h
  unfold Program.cellsOf; simp [hi, hn]
theorem depth_succ (P : Program) : ∃ d, P.depth = d + 1 := ⟨2 * (P.types.size + Made.depth) + 1, rfl⟩

theorem unsafe_sim {ρ : Rho} {s s' : St} {w : World} {e src dst : Nat} {x v : IV} {x' : Value} (h : Rel P γ ρ s w) (hs : P.underlying src = some (.pointer e)) (hd : P.underlying dst = some .unsafePointer)
    (hx : VR ρ γ x x') (hr : toUnsafe P e x s = .ok v s') : Yields P γ ρ s w (Conv.unsafePointer src dst x') v s' := by
  unfold toUnsafe at hr
  cases x <;> simp only at hr <;> (try (cases hr; done))
  · cases hx; cases hr
    refine Yields.same h ?_ .nilptr
    unfold Conv.unsafePointer
    simp only [Sem.run_bind, run_underlying hs, run_underlying hd, Result.andThen_ok, Sem.run_pure]
  · rename_i b o
    cases hx
    rename_i p hb
    split at hr
    · rename_i k hz
      unfold insideOf at hr
      split at hr
      · rename_i c len e' fz tag hg
        split at hr
        · rename_i hlt
          cases hr
          have hlt' : o < len := by simpa [Nat.blt_eq] using hlt
          obtain ⟨arr, fr, h1, h2⟩ := h.row hb hg
          cases h2 with
          | cells _ _ _ _ _ _ _ hl' ha hc hf hs' htg hz' =>
            refine Yields.same h ?_ (.ptr b o p hb)
            unfold Conv.unsafePointer
            have hno : ¬ (p.shift + o ≥ arr.size) := by omega
            simp only [Sem.run_bind, run_underlying hs, run_underlying hd, Result.andThen_ok, run_seenAt h1, run_cellsIn h1, run_sizeOf hz, Sem.run_pure]
            simp [hno]
        · cases hr
      · cases hr
    · cases hr

theorem ofUnsafe_sim {ρ : Rho} {s s' : St} {w : World} {e src dst : Nat} {x v : IV} {x' : Value} (h : Rel P γ ρ s w) (hs : P.underlying src = some .unsafePointer) (hd : P.underlying dst = some (.pointer e))
    (hx : VR ρ γ x x') (hr : ofUnsafe P e x s = .ok v s') : Yields P γ ρ s w (Conv.unsafePointer src dst x') v s' := by
  unfold ofUnsafe at hr
  split at hr <;> (try (cases hr; done))
  · cases hx; cases hr
    refine Yields.same h ?_ .nilptr
    unfold Conv.unsafePointer
    simp only [Sem.run_bind, run_underlying hs, run_underlying hd, Result.andThen_ok, Sem.run_pure]
  · rename_i b
    cases hx
    rename_i p hb
    split at hr <;> (try (cases hr; done))
    rename_i n hz
    unfold wholeOf at hr
    split at hr <;> (try (cases hr; done))
    rename_i c len e' fz hg
    split at hr <;> (try (cases hr; done))
    rename_i hee
    split at hr <;> (try (cases hr; done))
    rename_i hln
    cases hr
    have he := Nat.eq_of_beq_eq_true hee
    have hln' := Nat.eq_of_beq_eq_true hln
    subst he
    obtain ⟨arr, fr, h1, h2⟩ := h.row hb hg
    cases h2 with
    | cells _ _ _ _ _ _ _ hl' ha hc hf hs' htg hz' =>
      have hsh := htg rfl
      refine Yields.same h ?_ (.ptr b 0 p hb)
      have hcells := cellsOf_eq hz
      have hvar : (Conv.unsafePointer src dst (.pointer (some ⟨p.blk, p.shift + 0, none⟩))).run P w = .ok (.pointer (some ⟨p.blk, p.shift + 0, none⟩)) w := by
        unfold Conv.unsafePointer
        simp only [Sem.run_bind, run_underlying hs, run_underlying hd, Result.andThen_ok, run_seenAt h1, run_sizeOf hz, Sem.run_pure]
        unfold variablesAt
        simp only [Sem.run_bind, run_program, run_shape, shape_eq h1, Result.andThen_ok, Sem.run_pure]
        obtain ⟨d, hdep⟩ := depth_succ P
        have hlies : liesAt P P.depth e (arr.size / P.cellsOf e) (p.shift + 0) e 1 = true := by
          rw [hdep]
          unfold liesAt
          rw [hdep]
          unfold rowAt
          have hdiv : 1 ≤ arr.size / (n + 1) := (Nat.le_div_iff_mul_le (by omega)).2 (by omega)
          have hsame : sameLayout P (d + 1) e e = true := by unfold sameLayout; simp
          simp only [hcells, hsh, Nat.add_eq_zero_iff, Nat.one_ne_zero, and_false, if_false, Nat.zero_div, Nat.zero_mod, Nat.zero_add, hsame, beq_self_eq_true, Bool.true_and, Bool.and_true]
          simp [hdiv]
        have hlies' : liesAt P P.depth e (arr.size / P.cellsOf e) p.shift e 1 = true := hlies
        simp [hlies']
      exact hvar

theorem wrap_letter (k : IntKind) (n : Nat) (h1 : 97 ≤ n) (h2 : n ≤ 122) (hk : k = .u8 ∨ k = .i64 ∨ k = .i32) : k.wrap (n : Int) = n := by
  rcases hk with rfl | rfl | rfl <;> unfold IntKind.wrap <;> simp [IntKind.signed, IntKind.bits] <;> omega
theorem letConv_sim {ρ : Rho} {j : Nat} {k : IntKind} {v : IV} (h : letConv j k = some v) (hl : 1000 ≤ j → j < 4000 → LetOk γ (j % 1000)) :
    ∃ (k0 : IntKind) (n : Nat), γ j = .int k0 n ∧ VR ρ γ v (.int k (k.wrap n)) := by
  unfold letConv at h
  split at h <;> (try (cases h; done))
  rename_i k0 hk0
  obtain ⟨n, n1, n2, g0⟩ := let_val hk0 hl
  obtain ⟨h1, h2, _⟩ := letKind_some hk0
  have hm := Nat.mod_lt j (show 0 < 1000 by decide)
  obtain ⟨n', m1, m2, g1, g2, g3⟩ := hl h1 h2
  have hn : n' = n := by
    obtain ⟨_, _, h3⟩ := letKind_some hk0
    rcases h3 with ⟨h3, rfl⟩ | ⟨h3, h4, rfl⟩ | ⟨h3, rfl⟩
    · rw [show 1000 + j % 1000 = j by omega, g0] at g1
      injection g1 with _ q; omega
    · rw [show 2000 + j % 1000 = j by omega, g0] at g2
      injection g2 with _ q; omega
    · rw [show 3000 + j % 1000 = j by omega, g0] at g3
      injection g3 with _ q; omega
  subst hn
  have mk : ∀ (b : Nat) (k1 : IntKind), (b = 1000 ∨ b = 2000 ∨ b = 3000) → (k1 = .u8 ∨ k1 = .i64 ∨ k1 = .i32) → γ (b + j % 1000) = .int k1 n' → VR ρ γ (.sym (b + j % 1000)) (.int k1 (k1.wrap n')) := by
    intro b k1 hb hk1 g
    rw [wrap_letter k1 n' n1 (Nat.le_trans n2 (hiL_le _)) hk1, ← g]
    refine .sym _ (by rw [g]; rfl) (fun h => ?_) (fun h h' => ?_) (fun _ _ => ?_) (fun h => absurd h (by rcases hb with rfl | rfl | rfl <;> omega))
    · rcases hb with rfl | rfl | rfl <;> omega
    · rcases hb with rfl | rfl | rfl <;> omega
    · have e : (b + j % 1000) % 1000 = j % 1000 := by rcases hb with rfl | rfl | rfl <;> omega
      rw [e]
      exact ⟨n', m1, m2, g1, g2, g3⟩
  refine ⟨k0, n', g0, ?_⟩
  cases k <;> simp only at h <;> (try (cases h; done))
  case u8 => have e := Option.some.inj h; subst e; exact mk 1000 .u8 (.inl rfl) (.inl rfl) g1
  case i64 => have e := Option.some.inj h; subst e; exact mk 2000 .i64 (.inr (.inl rfl)) (.inr (.inl rfl)) g2
  case i32 => have e := Option.some.inj h; subst e; exact mk 3000 .i32 (.inr (.inr rfl)) (.inr (.inr rfl)) g3
theorem conv_sim {ρ : Rho} {s s' : St} {w : World} {src dst : Nat} {us ud : TypeDesc} {x v : IV} {x' : Value} (h : Rel P γ ρ s w) (hs : undI P src = some us) (hd : undI P dst = some ud) (hx : VR ρ γ x x')
    (hr : convAt P src dst us ud x s = .ok v s') : Yields P γ ρ s w (convert src dst x') v s' := by
  have hs' := undI_eq hs
  have hd' := undI_eq hd
  have hrun : ∀ {m : Sem Value}, (∀ w, (convert src dst x').run P w = m.run P w) → Yields P γ ρ s w m v s' → Yields P γ ρ s w (convert src dst x') v s' := by
    intro m hm ⟨v', w', ρ', h1, h2⟩
    exact ⟨v', w', ρ', (hm w).trans h1, h2⟩
  unfold convAt at hr
  split at hr
  · split at hr <;> (try (cases hr; done))
    · cases hx; cases hr
      refine Yields.same h ?_ (.int _ _)
      unfold convert
      simp only [Sem.run_bind, run_underlying hs', run_underlying hd', Result.andThen_ok, Conv.intToInt, Sem.run_pure, wrapI_eq]
    · rename_i k _ j
      cases hc : letConv j k with
      | none => rw [hc] at hr; cases hr
      | some v1 =>
        rw [hc] at hr
        cases hr
        cases hx with
        | sym _ hj hji hjs hjl =>
          obtain ⟨k0, n, g0, hv⟩ := letConv_sim (ρ := ρ) hc hjl
          rw [g0]
          refine Yields.same h ?_ hv
          unfold convert
          simp only [Sem.run_bind, run_underlying hs', run_underlying hd', Result.andThen_ok, Conv.intToInt, Sem.run_pure]
  · split at hr
    · cases hx; cases hr
      refine Yields.same h ?_ (.str (Utf8.encode _) _ (encode_eq _))
      unfold convert
      simp only [Sem.run_bind, run_underlying hs', run_underlying hd', Result.andThen_ok, Conv.intToString, Sem.run_pure]
    · cases hr
      have hx0 := hx
      cases hx
      refine Yields.same h ?_ hx0
      unfold convert
      simp only [Sem.run_bind, run_underlying hs', run_underlying hd', Result.andThen_ok, Sem.run_pure]
    · cases hr
      have hx0 := hx
      cases hx
      refine Yields.same h ?_ hx0
      unfold convert
      simp only [Sem.run_bind, run_underlying hs', run_underlying hd', Result.andThen_ok, Sem.run_pure]
    · rename_i hni hns hnss
      split at hr <;> (try (cases hr; done))
      rename_i e
      obtain ⟨hb, hy⟩ := ofBytes_sim h hx hr
      obtain ⟨hu, _⟩ := isByte_eq hb
      refine hrun ?_ hy
      intro w
      have : ∀ y : Value, VR ρ γ x y → (convert src dst y).run P w = (Conv.bytesToString y).run P w := by
        intro y hy
        unfold convert
        simp only [Sem.run_bind, run_underlying hs', run_underlying hd', Result.andThen_ok]
        cases hy <;> first
          | exact absurd rfl (hni _ _)
          | exact absurd rfl (hns _)
          | exact absurd rfl (hnss _)
          | (simp only [Sem.run_bind, run_underlying (undI_eq hu), Result.andThen_ok]; done)
          | (simp [ofBytes, hb] at hr; done)
      exact this x' hx
  · split at hr
    · cases hx with
      | str b l hl =>
        subst hl
        obtain ⟨hb, hy⟩ := toBytes_sim h hr
        obtain ⟨hu, _⟩ := isByte_eq hb
        refine hrun ?_ hy
        intro w
        unfold convert
        simp only [Sem.run_bind, run_underlying hs', run_underlying hd', Result.andThen_ok, run_underlying (undI_eq hu)]
    · cases hx with
      | sstr b l hl hlc =>
        obtain ⟨hb, hy⟩ := toBytesS_sim h ⟨hl, hlc⟩ hr
        obtain ⟨hu, _⟩ := isByte_eq hb
        refine hrun ?_ hy
        intro w
        unfold convert
        simp only [Sem.run_bind, run_underlying hs', run_underlying hd', Result.andThen_ok, run_underlying (undI_eq hu)]
    · rename_i hns hnss
      split at hr <;> (try (cases hr; done))
      cases x <;> simp only [sameBytes] at hr <;> (try (cases hr; done))
      rename_i b o n c ex
      split at hr <;> (try (cases hr; done))
      rename_i heq
      split at hr <;> (try (cases hr; done))
      rename_i hb
      obtain ⟨hu, _⟩ := isByte_eq hb
      obtain ⟨rfl, a, n', c', w', rfl, h1, h2, h3⟩ := strish_sim h hx hr
      have he : src = dst := Nat.eq_of_beq_eq_true heq
      subst he
      have hsame := hs'.symm.trans hd'
      cases hsame
      refine ⟨_, w', ρ, ?_, h2, h3, hx⟩
      unfold convert
      simp only [Sem.run_bind, run_underlying hs', run_underlying hd', Result.andThen_ok, run_underlying (undI_eq hu), beq_self_eq_true, h1, Sem.run_pure]
  · split at hr <;> (try (cases hr; done))
    refine hrun ?_ (unsafe_sim h hs' hd' hx hr)
    intro w
    unfold convert
    simp only [Sem.run_bind, run_underlying hs', run_underlying hd', Result.andThen_ok]
  · split at hr <;> (try (cases hr; done))
    refine hrun ?_ (ofUnsafe_sim h hs' hd' hx hr)
    intro w
    unfold convert
    simp only [Sem.run_bind, run_underlying hs', run_underlying hd', Result.andThen_ok]
  · cases hr
end Go.Eng
