/- A part of the proof: an interpreter of the program, shown right once, and the laws that it computes. -/
import Derived.Test.YtpanfhfcpniodaaGreatDoorEng10
set_option linter.constructorNameAsVariable false
set_option linter.unusedVariables false
set_option linter.unusedSimpArgs false
namespace Go.Eng
variable {P : Program} {γ : Gam}

theorem run_newRow (w : World) (e : TypeId) (arr : Array Value) : (newRow e arr).run P w = .ok ⟨w.heap.size, 0, none⟩ (pushed w (.cells arr e)) := by
  unfold newRow; simp only [Sem.run_bind, run_newObj, Result.andThen_ok, Sem.run_pure]; rfl

theorem freeze_eq {w : World} {b off n : Nat} {arr : Array Value} {e : Nat} {fr : Nat × Nat} (h : w.heap[b]? = some (.cells arr e fr)) (hn : n ≠ 0) :
    w.freeze ⟨b, off, none⟩ n = setRow w b (.cells arr e (if fr.1 == fr.2 then (off, off + n) else (min fr.1 off, max fr.2 (off + n)))) := by
  unfold World.freeze setRow
  rw [if_neg hn]
  congr 1
  apply Array.ext_getElem?
  intro i
  rw [Array.getElem?_modify, Array.getElem?_setIfInBounds]
  by_cases hi : b = i
  · subst hi
    have hlt := lt_of_get h
    have hg : w.heap[b] = .cells arr e fr := by simpa [Array.getElem?_eq_getElem hlt] using h
    obtain ⟨lo, hi⟩ := fr
    simp [hlt, hg]
  · simp [hi]

theorem setRow_pushed (w : World) (o o' : Obj) : setRow (pushed w o) w.heap.size o' = pushed w o' := by
  unfold setRow pushed
  congr 1
  apply Array.ext_getElem?
  intro i
  rw [Array.getElem?_setIfInBounds, Array.getElem?_push, Array.getElem?_push]
  by_cases hi : w.heap.size = i
  · subst hi; simp
  · simp [hi, Ne.symm hi]

theorem run_markStringish {w : World} {b off : Nat} {arr : Array Value} {e : Nat} {fr : Nat × Nat} (h : w.heap[b]? = some (.cells arr e fr)) :
    (markStringish ⟨b, off, none⟩).run P w = .ok () (setRow w b (.cells arr e (if fr.1 == fr.2 then (arr.size, arr.size + 1) else (min fr.1 arr.size, max fr.2 (arr.size + 1))))) := by
  unfold markStringish
  simp only [Sem.run_bind, run_shape, shape_eq h, Result.andThen_ok, run_freeze, freeze_eq h (by decide : (1 : Nat) ≠ 0)]

theorem toRow_sim {ρ : Rho} {s : St} {w : World} {e : Nat} {b : ByteArray} {X : List IV} (h : Rel P γ ρ s w) (hb : isByte P e = true) (hXl : X.length = b.size) (hX : ∀ ρ, VRs ρ γ X (b.data.toList.map fun c => Value.int .u8 c.toNat)) :
    Yields P γ ρ s w (Conv.stringToBytes e b) (.sl s.next 0 b.size b.size false) (s.new (rowOf X e 1)) := by
  obtain ⟨hu, hz⟩ := isByte_eq hb
  have hcap : ∃ cap, b.size ≤ cap ∧ (choose (.appendCap b.size 0 e)).run P w = .ok cap (drawn w) :=
    ⟨b.size + w.tape w.drawn (.appendCap b.size 0 e) % (2 ^ 63 - b.size), Nat.le_add_right _ _, by simp only [run_choose, Question.forced, Bool.false_eq_true, if_false]; rfl⟩
  obtain ⟨cap, hle, hch⟩ := hcap
  have hd := h.drawn
  generalize hw : drawn w = wd at hd hch
  have hdg : Goes ρ s w ρ s wd := hw ▸ Goes.drawn ρ s w
  -- the new block
  let elems : Array Value := b.data.map fun c => .int .u8 c.toNat
  let arr : Array Value := elems ++ Array.replicate (cap - b.size) (.int .u8 0)
  have hasz : arr.size = cap := by
    show (b.data.map _ ++ Array.replicate _ _).size = cap
    have : b.data.size = b.size := rfl
    simp; omega
  have hrun : (Conv.stringToBytes e b).run P w = .ok (.slice (some ⟨wd.heap.size, 0, none⟩) b.size cap) (pushed wd (.cells arr e (arr.size, arr.size + 1))) := by
    unfold Conv.stringToBytes
    simp only [Sem.run_bind, hch, Result.andThen_ok, run_newRow]
    rw [run_markStringish (pushed_self wd _)]
    simp only [Result.andThen_ok, Sem.run_pure, beq_self_eq_true, if_true, setRow_pushed]
    rfl
  let p : Pl := ⟨wd.heap.size, 0, cap, 1⟩
  have hle' := hd.le_with p
  obtain ⟨h1, h2⟩ := hd.new (p := p) rfl (x := rowOf X e 1) (o := .cells arr e (arr.size, arr.size + 1)) (by
    refine .cells _ _ _ _ _ _ _ (by rw [hXl]; show 0 + b.size ≤ cap; omega) (by show cap ≤ arr.size; omega) ?_ ?_ (fun hne => absurd rfl hne) (fun h0 => by cases h0) hz
    · intro j hj
      rw [hXl] at hj
      have hbl : X.length = b.size := hXl
      rw [get_wrC, dif_pos (by omega)]
      have hv := hX (ρ.with s.next p)
      have hk : (X)[j - 0]? = some ((X)[j - 0]'(by omega)) := List.getElem?_eq_getElem (by omega)
      obtain ⟨v', hv1, hv2⟩ := hv.get hk
      refine ⟨v', ?_, hv2⟩
      show arr[0 + j]? = _
      have hj2 : j < elems.size := by show j < (b.data.map _).size; have : b.data.size = b.size := rfl; simp; omega
      rw [Nat.zero_add, Array.getElem?_append_left hj2, ← hv1]
      show (b.data.map _)[j]? = _
      rw [Nat.sub_zero, Array.getElem?_map, List.getElem?_map, Array.getElem?_toList]
    · intro j hj1 hj2 hj3
      have : p.lim = cap := rfl
      rw [hasz] at hj3
      omega)
  refine ⟨_, _, _, hrun, hdg.trans h2, h1, ?_⟩
  have hvl := VR.sli (ρ := ρ.with s.next p) (γ := γ) s.next 0 b.size b.size cap 0 p (Rho.with_self _ _ _) (Nat.le_refl _) hle (.inl rfl) (by show 0 + cap * 1 ≤ cap; omega)
  exact hvl

theorem toBytes_sim {ρ : Rho} {s s' : St} {w : World} {e : Nat} {b : ByteArray} {v : IV} (h : Rel P γ ρ s w) (hr : toBytes P e (b.data.toList.map UInt8.toNat) s = .ok v s') :
    isByte P e = true ∧ Yields P γ ρ s w (Conv.stringToBytes e b) v s' := by
  unfold toBytes at hr
  cases hb : isByte P e with
  | false => rw [hb] at hr; cases hr
  | true =>
    rw [hb] at hr
    refine ⟨rfl, ?_⟩
    simp only at hr
    injection hr with hv hs
    subst hv hs
    have hl : (b.data.toList.map UInt8.toNat).length = b.size := by simp
    rw [hl]
    exact toRow_sim h hb (by rw [length_bytesI, hl]) (fun ρ => bytesI_sim b.data.toList)
theorem codeI_sim {ρ : Rho} {c : Nat} {x : UInt8} (hc : CodeOk γ c) (h : x.toNat = den γ c) : VR ρ γ (codeI c) (.int .u8 x.toNat) := by
  unfold codeI
  cases hb : Nat.blt c 256 with
  | true =>
    have hlt : c < 256 := by simpa [Nat.blt_eq] using hb
    unfold den at h
    rw [if_pos hlt] at h
    rw [h]
    exact .int _ _
  | false =>
    have hlt : ¬ c < 256 := by intro hj; rw [← Nat.blt_eq] at hj; rw [hj] at hb; cases hb
    rcases hc with hc | ⟨_, h2, hl⟩
    · exact absurd hc hlt
    · obtain ⟨n, n1, n2, g1, g2, g3⟩ := hl
      have e : 1000 + (c - 256) = Nat.add 744 c := by show _ = 744 + c; omega
      rw [e] at g1
      have hn : x.toNat = n := by
        rw [h]
        unfold den denL
        rw [if_neg hlt, e, g1]
        simp
      rw [hn, ← g1]
      refine .sym _ (by rw [g1]; rfl) (fun h => ?_) (fun h h' => ?_) (fun _ _ => ?_)
      · have : Nat.add 744 c = 744 + c := rfl
        omega
      · have : Nat.add 744 c = 744 + c := rfl
        omega
      · have e2 : Nat.add 744 c % 1000 = c - 256 := by have : Nat.add 744 c = 744 + c := rfl; omega
        rw [e2]
        exact ⟨n, n1, n2, by rw [e]; exact g1, g2, g3⟩
theorem bytesS_sim {ρ : Rho} : ∀ {l : List Nat} {bs : List UInt8}, bs.map UInt8.toNat = l.map (den γ) → (∀ c ∈ l, CodeOk γ c) → VRs ρ γ (bytesS l) (bs.map fun c => Value.int .u8 c.toNat)
  | [], [], _, _ => .nil
  | [], _ :: _, h, _ => by simp at h
  | _ :: _, [], h, _ => by simp at h
  | c :: l, x :: bs, h, hc => by
    simp only [List.map_cons, List.cons.injEq] at h
    exact .cons _ _ _ _ (codeI_sim (hc c (by simp)) h.1) (bytesS_sim h.2 (fun d hd => hc d (by simp [hd])))
theorem length_bytesS : ∀ (l : List Nat), (bytesS l).length = l.length
  | [] => rfl
  | _ :: l => by simp [bytesS, length_bytesS l]
theorem toBytesS_sim {ρ : Rho} {s s' : St} {w : World} {e : Nat} {b : ByteArray} {l : List Nat} {v : IV} (h : Rel P γ ρ s w) (hs : SR γ l b) (hr : toBytesS P e l s = .ok v s') :
    isByte P e = true ∧ Yields P γ ρ s w (Conv.stringToBytes e b) v s' := by
  unfold toBytesS at hr
  cases hb : isByte P e with
  | false => rw [hb] at hr; cases hr
  | true =>
    rw [hb] at hr
    refine ⟨rfl, ?_⟩
    simp only at hr
    injection hr with hv hs'
    subst hv hs'
    have hl : l.length = b.size := by have := congrArg List.length hs.1; simpa using this.symm
    rw [hl]
    exact toRow_sim h hb (by rw [length_bytesS, hl]) (fun ρ => bytesS_sim hs.1 hs.2)

theorem strish_sim {ρ : Rho} {s s' : St} {w : World} {b o n c : Nat} {ex : Bool} {x' : Value} {v : IV} (h : Rel P γ ρ s w) (hx : VR ρ γ (.sl b o n c ex) x') (hr : strish s b (.sl b o n c ex) = .ok v s') :
    v = .sl b o n c ex ∧ ∃ a n' c' w', x' = .slice (some a) n' c' ∧ (markStringish a).run P w = .ok () w' ∧ Goes ρ s w ρ s' w' ∧ Rel P γ ρ s' w' := by
  obtain ⟨p, off, c', hb, rfl, hoff, _⟩ := hx.sl_inv
  unfold strish at hr
  split at hr
  · rename_i l len e hg
    injection hr with hv hs
    subst hv hs
    obtain ⟨arr, fr, h1, h2⟩ := h.row hb hg
    cases h2 with
    | cells _ _ _ _ _ _ _ hl' ha hc hf hs htg hz =>
      obtain ⟨_, hs2⟩ := hs (by decide)
      have hfr := hs2 rfl
      refine ⟨rfl, _, _, _, _, rfl, run_markStringish h1, ?_⟩
      rw [if_pos (by simp [hfr])]
      have hput := h.put (x := .cells l len e 0 1) (o := .cells arr e (arr.size, arr.size + 1)) hb (by rw [hg]; exact fun h => h)
        (.cells _ _ _ _ _ _ _ hl' ha hc (fun j hj1 hj2 hj3 => by have : p.lim ≤ arr.size := ha; omega) (fun hne => absurd rfl hne) (fun h0 => by cases h0) hz)
      exact ⟨hput.2, hput.1⟩
  · cases hr

theorem bytesToString_loop {w : World} : ∀ (r : List Nat) (acc : ByteArray),
    (forIn (r.map fun c => Value.int .u8 (Int.ofNat c)) acc fun c (s : ByteArray) => (do
      match c with
      | .int .u8 n => pure (ForInStep.yield (s.push (UInt8.ofNat n.toNat)))
      | _ => stuck "bytesToString: byte expected" : Sem (ForInStep ByteArray))).run P w = .ok (r.foldl (fun s c => s.push (UInt8.ofNat c)) acc) w := by
  intro r
  induction r with
  | nil => intro acc; rfl
  | cons c r ih => intro acc; simp only [List.map_cons, List.forIn_cons, Sem.run_bind, Sem.run_pure, Result.andThen_ok, List.foldl_cons]; exact ih _

theorem foldl_push : ∀ (r : List Nat) (acc : ByteArray), (∀ c ∈ r, c < 256) → (r.foldl (fun s c => s.push (UInt8.ofNat c)) acc).data.toList.map UInt8.toNat = acc.data.toList.map UInt8.toNat ++ r
  | [], acc, _ => by simp
  | c :: r, acc, h => by
    rw [List.foldl_cons, foldl_push r _ (fun x hx => h x (by simp [hx]))]
    have : (acc.push (UInt8.ofNat c)).data = acc.data.push (UInt8.ofNat c) := rfl
    rw [this]
    simp [toNat_ofNat (h c (by simp))]

theorem code_facts {j c : Nat} (h1 : 1000 ≤ j) (h2 : j < 2000) (h : c = j - 744) : 256 ≤ c ∧ c < 1256 ∧ ¬ c < 256 ∧ 1000 + (c - 256) = j ∧ 2000 + (c - 256) = 2000 + j % 1000 ∧ 3000 + (c - 256) = 3000 + j % 1000 ∧ 1000 + j % 1000 = j ∧ j < 4000 := by omega
theorem code_mod {j c : Nat} (h1 : 1000 ≤ j) (h2 : j < 2000) (h : c = j - 744) : j % 1000 = c - 256 := by omega
theorem codesOf_sim {ρ : Rho} : ∀ {l : List IV} {l' : List Value} {r : List Nat}, VRs ρ γ l l' → codesOf l = some r →
    ∃ bs : List Nat, l' = bs.map (fun c => Value.int .u8 (Int.ofNat c)) ∧ (∀ c ∈ bs, c < 256) ∧ bs = r.map (den γ) ∧ ∀ c ∈ r, CodeOk γ c
  | [], l', r, h, hr => by cases h; cases hr; exact ⟨[], rfl, by simp, rfl, by simp⟩
  | x :: l, l', r, h, hr => by
    cases h with
    | cons v v' _ l'' hv hs =>
      unfold codesOf at hr
      cases hb : codeOf x with
      | none => simp [hb] at hr
      | some c =>
        simp only [hb] at hr
        cases hl : codesOf l with
        | none => simp [hl] at hr
        | some q =>
          simp only [hl] at hr; cases hr
          obtain ⟨bs, h1, h2, h3, h4⟩ := codesOf_sim hs hl
          have key : ∃ d : Nat, v' = .int .u8 (Int.ofNat d) ∧ d < 256 ∧ d = den γ c ∧ CodeOk γ c := by
            unfold codeOf at hb
            split at hb <;> (try (cases hb; done))
            · split at hb <;> (try (cases hb; done))
              rename_i hlt
              rw [Nat.blt_eq] at hlt
              cases hb
              cases hv
              exact ⟨_, rfl, hlt, by unfold den; rw [if_pos hlt], .inl hlt⟩
            · rename_i j
              cases hj : Bool.and (Nat.ble 1000 j) (Nat.blt j 2000) with
              | false => rw [hj] at hb; exact absurd hb (by simp)
              | true =>
              rw [hj] at hb
              have hj1 : 1000 ≤ j := Nat.le_of_ble_eq_true ((Bool.and_eq_true _ _).mp hj).1
              have hj2 : j < 2000 := by have := ((Bool.and_eq_true _ _).mp hj).2; rw [Nat.blt_eq] at this; exact this
              have hcj : Nat.sub j 744 = c := Option.some.inj hb
              have hcj2 : c = j - 744 := hcj.symm
              clear hcj hb
              cases hv with
              | sym _ hk hki hks hkl =>
                obtain ⟨f1, f2, f3, f4, f5, f6, f7, f8⟩ := code_facts hj1 hj2 hcj2
                obtain ⟨n, n1, n2, g1, g2, g3⟩ := hkl hj1 f8
                rw [f7] at g1
                have f9 : j % 1000 = c - 256 := code_mod hj1 hj2 hcj2
                have h256 : n < 256 := Nat.lt_of_le_of_lt (Nat.le_trans n2 (hiL_le _)) (show 122 < 256 by decide)
                refine ⟨n, g1, h256, ?_, .inr ⟨f1, f2, n, n1, (f9 ▸ n2), ?_, ?_, ?_⟩⟩
                · unfold den denL
                  rw [if_neg f3, f4, g1]
                  simp
                · rw [f4]; exact g1
                · rw [f5]; exact g2
                · rw [f6]; exact g3
          obtain ⟨d, rfl, d1, d2, d3⟩ := key
          refine ⟨d :: bs, by rw [h1]; rfl, ?_, by rw [h3, d2]; rfl, ?_⟩
          · intro x hx
            rcases List.mem_cons.1 hx with rfl | hx
            · exact d1
            · exact h2 x hx
          · intro x hx
            rcases List.mem_cons.1 hx with rfl | hx
            · exact d3
            · exact h4 x hx
theorem ofBytes_sim {ρ : Rho} {s s' : St} {w : World} {e : Nat} {x v : IV} {x' : Value} (h : Rel P γ ρ s w) (hx : VR ρ γ x x') (hr : ofBytes P e x s = .ok v s') :
    isByte P e = true ∧ Yields P γ ρ s w (Conv.bytesToString x') v s' := by
  unfold ofBytes at hr
  cases hb : isByte P e with
  | false => rw [hb] at hr; cases hr
  | true =>
    rw [hb] at hr
    refine ⟨rfl, ?_⟩
    cases x <;> simp only at hr <;> (try (cases hr; done))
    · cases hx
      cases hr
      exact Yields.same h rfl (.str _ _ rfl)
    · rename_i b o n c ex
      unfold strOfBytes at hr
      cases hrd : s.rd b o n with
      | none => rw [hrd] at hr; cases hr
      | some l =>
        rw [hrd] at hr
        simp only at hr
        cases hbs : bytesOfI l with
        | none =>
          rw [hbs] at hr
          simp only at hr
          cases hcs : codesOf l with
          | none => rw [hcs] at hr; cases hr
          | some r =>
            rw [hcs] at hr
            simp only at hr
            cases hr
            obtain ⟨a, c', l', rfl, h1, h2⟩ := h.rdSl hx (fun h => h) hrd
            obtain ⟨bs, h3, h4, h5, h6⟩ := codesOf_sim h2 hcs
            refine Yields.same h ?_ (.sstr (bs.foldl (fun s c => s.push (UInt8.ofNat c)) .empty) r ?_ h6)
            · unfold Conv.bytesToString
              simp only [Sem.run_bind, h1, Result.andThen_ok]
              rw [← Array.forIn_toList, h3]
              have := bytesToString_loop (P := P) (w := w) bs .empty
              refine Eq.trans (congrArg (fun q => Result.andThen q _) this) ?_
              rfl
            · rw [foldl_push bs _ h4, ← h5]; simp
        | some r =>
          rw [hbs] at hr
          simp only at hr
          cases hr
          obtain ⟨a, c', l', rfl, h1, h2⟩ := h.rdSl hx (fun h => h) hrd
          obtain ⟨h3, h4⟩ := bytesOfI_sim h2 hbs
          refine Yields.same h ?_ (.str (r.foldl (fun s c => s.push (UInt8.ofNat c)) .empty) r ?_)
          · unfold Conv.bytesToString
            simp only [Sem.run_bind, h1, Result.andThen_ok]
            rw [← Array.forIn_toList, h3]
            have := bytesToString_loop (P := P) (w := w) r .empty
            refine Eq.trans (congrArg (fun q => Result.andThen q _) this) ?_
            rfl
          · rw [foldl_push r _ h4]; simp
end Go.Eng
