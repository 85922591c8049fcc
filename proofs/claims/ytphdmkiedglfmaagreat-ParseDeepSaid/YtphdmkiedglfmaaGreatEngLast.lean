/- A part of the proof: an interpreter of the program, shown right once, and the laws that it computes. -/
import Derived.Test.YtphdmkiedglfmaaGreatEng31
set_option linter.constructorNameAsVariable false
set_option linter.unusedVariables false
set_option linter.unusedSimpArgs false
noncomputable section
namespace Go.Eng
open Go.RowKit
variable {P : Program} {γ : Gam}

/-- What is known of 'last' (a composer's): the text of the last token of a kind. -/
def LastSaid (P : Program) (fL : Nat) : Prop := ∀ (cb co bb bo nb c : Nat) (sv : Value) (K : Int) (len : Nat) (tk : Nat → Int × Int × Int) (str : Nat → List UInt8) (w : World),
  len ≤ 4611686018427387904 → cb < w.heap.size → bb < w.heap.size →
  w.cell? ⟨cb, co, none⟩ = some (.slice (some ⟨bb, bo, none⟩) nb c) →
  ((sv = .slice none 0 0 ∧ len = 0) ∨ ∃ b off cap, sv = .slice (some ⟨b, off, none⟩) len cap ∧ b < w.heap.size ∧
    ∀ j, j < len → w.cell? ⟨b, off + j * 3, none⟩ = some (.int .i64 (tk j).1) ∧ w.cell? ⟨b, off + j * 3 + 1, none⟩ = some (.int .i64 (tk j).2.1) ∧ w.cell? ⟨b, off + j * 3 + 2, none⟩ = some (.int .i64 (tk j).2.2)) →
  (∀ j, j < len → (tk j).1 = K → ∃ F T : Nat, (tk j).2 = ((F : Int), (T : Int)) ∧ F < T ∧ T ≤ c ∧ (str j).length = T - F ∧ ∀ i (hi : i < (str j).length), w.cell? ⟨bb, bo + F + i, none⟩ = some (.int .u8 ((str j)[i].toNat : Int))) →
  Calls P fL #[.pointer (some ⟨cb, co, none⟩), sv, .int .i64 K] w fun e W' =>
    ((e = .returned (.tuple #[.string ⟨#[]⟩, .bool false]) ∧ ∀ j, j < len → (tk j).1 ≠ K) ∨
      (∃ j, j < len ∧ (tk j).1 = K ∧ (∀ i, j < i → i < len → (tk i).1 ≠ K) ∧ e = .returned (.tuple #[.string ⟨(str j).toArray⟩, .bool true]))) ∧ Below w.heap.size w W'

def i64I (v : IV) : Option Int := match v with
  | .int k n => match k with
    | .i64 => some n
    | _ => none
  | _ => none
def lastGo (K : Int) (txt : Int → Int → Option (List Nat)) : Nat → List IV → List Nat → Bool → Option (List Nat × Bool)
  | 0, _, l, b => some (l, b)
  | n + 1, cs, l, b => match cs with
    | x :: cs => match cs with
      | y :: cs => match cs with
        | z :: cs => match i64I x with
          | some k => match i64I y with
            | some F => match i64I z with
              | some T => match eqI k K with
                | true => match txt F T with
                  | some l => lastGo K txt n cs l true
                  | none => none
                | false => lastGo K txt n cs l b
              | none => none
            | none => none
          | none => none
        | [] => none
      | [] => none
    | [] => none
def bytesAt (s : St) (b o n : Nat) : Option (List Nat) := match s.rd b o n with
  | some l => codesOf l
  | none => none
def txtOf (s : St) (bb bo c : Nat) (F T : Int) : Option (List Nat) := match F with
  | .ofNat f => match T with
    | .ofNat t => match Nat.blt f t && Nat.ble t c with
      | true => bytesAt s bb (bo + f) (t - f)
      | false => none
    | _ => none
  | _ => none
def toksOf (s : St) (l : IV) : Option (List IV × Nat) := match l with
  | .nilsl => some ([], 0)
  | .sl b o n _ _ => match s.rd b o (n * 3) with
    | some cs => match Nat.ble n 4611686018427387904 with
      | true => some (cs, n)
      | false => none
    | none => none
  | _ => none
def lastR (s : St) : Option (List Nat × Bool) → Option R
  | some (l, b) => some (.ok (.tup [textOf l, .bool b]) s)
  | none => none
def lastC (s : St) (K : Int) (cell : Option IV) (ts : Option (List IV × Nat)) : Option R := match cell with
  | some v => match v with
    | .sl bb bo _ c _ => match ts with
      | some (cs, n) => lastR s (lastGo K (txtOf s bb bo c) n cs [] false)
      | none => none
    | _ => none
  | none => none
def lastA (s : St) (args : List IV) : Option R := match args with
  | [p, l, k] => match p with
    | .ptr cb co => match i64I k with
      | some K => lastC s K (cellOf co (s.get cb)) (toksOf s l)
      | none => none
    | _ => none
  | _ => none
/-- 'last', known. -/
def lastX (fL : Nat) : Ext := ⟨fun f args s => match Nat.beq f fL with
  | true => lastA s args
  | false => none⟩
/-- One and another. -/
def orX (X Y : Ext) : Ext := ⟨fun f args s => match X.get f args s with
  | some r => some r
  | none => Y.get f args s⟩
theorem orX_ok {X Y : Ext} (hX : ExtOk P γ X) (hY : ExtOk P γ Y) : ExtOk P γ (orX X Y) := by
  intro f args s v s' h
  unfold orX at h
  simp only at h
  cases hx : X.get f args s with
  | some r => rw [hx] at h; simp only at h; exact hX f args s v s' (hx.trans h)
  | none => rw [hx] at h; exact hY f args s v s' h

theorem i64I_rel {ρ : Rho} {v : IV} {v' : Value} {n : Int} (h : VR ρ γ v v') (hn : i64I v = some n) : v' = .int .i64 n := by
  unfold i64I at hn
  cases h <;> simp only at hn <;> (try (cases hn; done))
  split at hn <;> (try (cases hn; done))
  cases hn
  rfl

theorem lastGo_inv {ρ : Rho} {K : Int} {txt : Int → Int → Option (List Nat)} : ∀ {n : Nat} {cs : List IV} {cs' : List Value} {l0 l : List Nat} {b0 b : Bool}, VRs ρ γ cs cs' → lastGo K txt n cs l0 b0 = some (l, b) →
    ∃ (tk : Nat → Int × Int × Int) (sl : Nat → List Nat), (∀ j, j < n → cs'[j * 3]? = some (.int .i64 (tk j).1) ∧ cs'[j * 3 + 1]? = some (.int .i64 (tk j).2.1) ∧ cs'[j * 3 + 2]? = some (.int .i64 (tk j).2.2)) ∧
      (∀ j, j < n → (tk j).1 = K → txt (tk j).2.1 (tk j).2.2 = some (sl j)) ∧
      (((∀ j, j < n → (tk j).1 ≠ K) ∧ l = l0 ∧ b = b0) ∨ (∃ j, j < n ∧ (tk j).1 = K ∧ (∀ i, j < i → i < n → (tk i).1 ≠ K) ∧ l = sl j ∧ b = true))
  | 0, cs, cs', l0, l, b0, b, hv, h => by
    simp only [lastGo] at h
    cases h
    exact ⟨fun _ => (0, 0, 0), fun _ => [], fun j hj => absurd hj (Nat.not_lt_zero j), fun j hj => absurd hj (Nat.not_lt_zero j), .inl ⟨fun j hj => absurd hj (Nat.not_lt_zero j), rfl, rfl⟩⟩
  | n + 1, cs, cs', l0, l, b0, b, hv, h => by
    unfold lastGo at h
    split at h <;> (try (cases h; done))
    rename_i x cs1
    split at h <;> (try (cases h; done))
    rename_i y cs2
    split at h <;> (try (cases h; done))
    rename_i z cs3
    cases hv with
    | cons _ x' _ l1 hx hv =>
    cases hv with
    | cons _ y' _ l2 hy hv =>
    cases hv with
    | cons _ z' _ l3 hz hv =>
    split at h <;> (try (cases h; done))
    rename_i k hk
    split at h <;> (try (cases h; done))
    rename_i F hF
    split at h <;> (try (cases h; done))
    rename_i T hT
    have ex := i64I_rel hx hk
    have ey := i64I_rel hy hF
    have ez := i64I_rel hz hT
    subst ex ey ez
    have cons : ∀ (tk : Nat → Int × Int × Int), (∀ j, j < n → l3[j * 3]? = some (.int .i64 (tk j).1) ∧ l3[j * 3 + 1]? = some (.int .i64 (tk j).2.1) ∧ l3[j * 3 + 2]? = some (.int .i64 (tk j).2.2)) →
        ∀ j, j < n + 1 → ((Value.int .i64 k :: Value.int .i64 F :: Value.int .i64 T :: l3)[j * 3]? = some (.int .i64 ((fun j => match j with | 0 => (k, F, T) | j + 1 => tk j : Nat → Int × Int × Int) j).1) ∧
          (Value.int .i64 k :: Value.int .i64 F :: Value.int .i64 T :: l3)[j * 3 + 1]? = some (.int .i64 ((fun j => match j with | 0 => (k, F, T) | j + 1 => tk j : Nat → Int × Int × Int) j).2.1) ∧
          (Value.int .i64 k :: Value.int .i64 F :: Value.int .i64 T :: l3)[j * 3 + 2]? = some (.int .i64 ((fun j => match j with | 0 => (k, F, T) | j + 1 => tk j : Nat → Int × Int × Int) j).2.2)) := by
      intro tk htk j hj
      cases j with
      | zero => exact ⟨rfl, rfl, rfl⟩
      | succ j =>
        have := htk j (by omega)
        rw [show (j + 1) * 3 = j * 3 + 1 + 1 + 1 by omega]
        refine ⟨?_, ?_, ?_⟩
        · simpa using this.1
        · rw [show j * 3 + 1 + 1 + 1 + 1 = (j * 3 + 1) + 1 + 1 + 1 by omega]; simpa using this.2.1
        · rw [show j * 3 + 1 + 1 + 1 + 2 = (j * 3 + 2) + 1 + 1 + 1 by omega]; simpa using this.2.2
    cases he : eqI k K with
    | false =>
      rw [he] at h
      simp only at h
      rw [eqI_eq] at he
      have hne : k ≠ K := by simpa using he
      obtain ⟨tk, sl, h1, h2, h3⟩ := lastGo_inv hv h
      refine ⟨fun j => match j with | 0 => (k, F, T) | j + 1 => tk j, fun j => match j with | 0 => [] | j + 1 => sl j, cons tk h1, ?_, ?_⟩
      · intro j hj hK
        cases j with
        | zero => exact absurd hK hne
        | succ j => exact h2 j (by omega) hK
      · rcases h3 with ⟨q1, q2, q3⟩ | ⟨j, q1, q2, q3, q4, q5⟩
        · refine .inl ⟨fun j hj => ?_, q2, q3⟩
          cases j with
          | zero => exact hne
          | succ j => exact q1 j (by omega)
        · refine .inr ⟨j + 1, by omega, q2, fun i hi hin => ?_, q4, q5⟩
          cases i with
          | zero => omega
          | succ i => exact q3 i (by omega) (by omega)
    | true =>
      rw [he] at h
      simp only at h
      rw [eqI_eq] at he
      have heq : k = K := by simpa using he
      split at h <;> (try (cases h; done))
      rename_i l1 hl1
      obtain ⟨tk, sl, h1, h2, h3⟩ := lastGo_inv hv h
      refine ⟨fun j => match j with | 0 => (k, F, T) | j + 1 => tk j, fun j => match j with | 0 => l1 | j + 1 => sl j, cons tk h1, ?_, ?_⟩
      · intro j hj hK
        cases j with
        | zero => exact hl1
        | succ j => exact h2 j (by omega) hK
      · rcases h3 with ⟨q1, q2, q3⟩ | ⟨j, q1, q2, q3, q4, q5⟩
        · refine .inr ⟨0, by omega, heq, fun i hi hin => ?_, q2, q3⟩
          cases i with
          | zero => omega
          | succ i => exact q1 i (by omega)
        · refine .inr ⟨j + 1, by omega, q2, fun i hi hin => ?_, q4, q5⟩
          cases i with
          | zero => omega
          | succ i => exact q3 i (by omega) (by omega)

theorem cell_of_arr {w : World} {b : Nat} {arr : Array Value} {e : Nat} {fr : Nat × Nat} (h : w.heap[b]? = some (.cells arr e fr)) {o n k : Nat} {v : Value} (hv : ((arr.extract o (o + n)).toList)[k]? = some v) : w.cell? ⟨b, o + k, none⟩ = some v := by
  rw [cell_eq h]
  simp only [Array.toList_extract, List.extract_eq_take_drop] at hv
  rw [List.getElem?_take] at hv
  split at hv <;> (try (cases hv; done))
  rw [List.getElem?_drop] at hv
  simpa using hv

theorem last_ok {fL : Nat} (hL : LastSaid P fL) : ExtOk P γ (lastX fL) := by
  intro f args s v s' h ρ w args' hr _ hv
  unfold lastX at h
  simp only at h
  split at h <;> (try (cases h; done))
  rename_i hf
  have := Nat.eq_of_beq_eq_true hf
  subst this
  unfold lastA at h
  split at h <;> (try (cases h; done))
  rename_i p l k
  split at h <;> (try (cases h; done))
  rename_i cb co
  split at h <;> (try (cases h; done))
  rename_i K hK
  unfold lastC at h
  split at h <;> (try (cases h; done))
  rename_i vc hvc
  split at h <;> (try (cases h; done))
  rename_i bb bo nb c ex
  split at h <;> (try (cases h; done))
  rename_i cs n hts
  cases hv with
  | cons _ p' _ _ hp hv =>
  cases hv with
  | cons _ l' _ _ hl hv =>
  cases hv with
  | cons _ k' _ _ hk hv =>
  cases hv
  have ek := i64I_rel hk hK
  subst ek
  cases hgo : lastGo K (txtOf s bb bo c) n cs [] false with
  | none => rw [hgo] at h; cases h
  | some r =>
    obtain ⟨lr, br⟩ := r
    rw [hgo] at h
    unfold lastR at h
    cases h
    cases hp with
    | ptr _ _ p hcb =>
    -- the composer's first field
    obtain ⟨vb', hvb, hvbr⟩ : ∃ vb', w.cell? ⟨p.blk, p.shift + co, none⟩ = some vb' ∧ VR ρ γ (.sl bb bo nb c ex) vb' := by
      unfold cellOf IObj.onCells at hvc
      cases hg : s.get cb <;> rw [hg] at hvc <;> (try (cases hvc; done))
      rename_i cc clen ce cfz ctag
      change Bool.rec (motive := fun _ => Option IV) none (some (PT.get undefI cc co)) (Nat.ble (Nat.succ co) clen) = _ at hvc
      cases hb : Nat.ble (Nat.succ co) clen with
      | false => rw [hb] at hvc; cases hvc
      | true =>
        rw [hb] at hvc
        injection hvc with hvc
        obtain ⟨arr, fr, q1, q2⟩ := hr.row hcb hg
        cases q2 with
        | cells _ _ _ _ _ _ _ hl' ha hc hf hs htg hz =>
          obtain ⟨v', w1, w2⟩ := hc co (Nat.le_of_ble_eq_true hb)
          rw [hvc] at w2
          exact ⟨v', by rw [cell_eq q1, Nat.add_comm]; rw [Nat.add_comm] at w1; exact w1, w2⟩
    obtain ⟨pb, off, c', hbb, rfl, hoff, hcc, hex1, hex2⟩ := hvbr.sl_inv
    -- the tokens
    obtain ⟨cs', hcs, hsv⟩ : ∃ cs' : List Value, VRs ρ γ cs cs' ∧ n ≤ 4611686018427387904 ∧ ((l' = .slice none 0 0 ∧ n = 0) ∨ ∃ b o cap, l' = .slice (some ⟨b, o, none⟩) n cap ∧ b < w.heap.size ∧ ∀ k v, cs'[k]? = some v → w.cell? ⟨b, o + k, none⟩ = some v) := by
      unfold toksOf at hts
      cases hl <;> simp only at hts <;> (try (cases hts; done))
      · cases hts
        exact ⟨[], .nil, by omega, .inl ⟨rfl, rfl⟩⟩
      · rename_i b o m cc p1 hb1
        split at hts <;> (try (cases hts; done))
        rename_i cs1 hrd
        split at hts <;> (try (cases hts; done))
        rename_i hle
        cases hts
        obtain ⟨arr, e, fr, q1, q2, q3⟩ := hr.rd hb1 hrd
        exact ⟨_, q3, Nat.le_of_ble_eq_true hle, .inr ⟨_, _, _, rfl, (hr.bound b p1 hb1).2, fun k v hk => cell_of_arr q1 hk⟩⟩
      · rename_i b o m cc c2 off2 p1 hb1 hn1 hc2 ho2 hl2
        split at hts <;> (try (cases hts; done))
        rename_i cs1 hrd
        split at hts <;> (try (cases hts; done))
        rename_i hle
        cases hts
        obtain ⟨arr, e, fr, q1, q2, q3⟩ := hr.rd hb1 hrd
        refine ⟨_, q3, Nat.le_of_ble_eq_true hle, .inr ⟨_, _, _, rfl, (hr.bound b p1 hb1).2, fun k v hk => ?_⟩⟩
        by_cases h0 : n = 0
        · subst h0
          simp only [Nat.zero_mul, Nat.add_zero] at hk
          have : ((arr.extract (p1.shift + o) (p1.shift + o)).toList).length = 0 := by simp
          have := (List.getElem?_eq_some_iff.1 hk).1
          simp at this
        · have : off2 = p1.shift + o := ho2.resolve_right (fun h => by omega)
          subst this
          exact cell_of_arr q1 hk
    obtain ⟨hn, hsv⟩ := hsv
    obtain ⟨tk, sl, h1, h2, h3⟩ := lastGo_inv hcs hgo
    have hstr : ∀ j, j < n → (tk j).1 = K → ∃ F T : Nat, (tk j).2 = ((F : Int), (T : Int)) ∧ F < T ∧ T ≤ c ∧ (sl j).length = T - F ∧ (∀ x ∈ sl j, den γ x < 256 ∧ CodeOk γ x) ∧ ∀ i (hi : i < (sl j).length), w.cell? ⟨pb.blk, off + F + i, none⟩ = some (.int .u8 ((den γ (sl j)[i] : Nat) : Int)) := by
      intro j hj hjK
      have ht := h2 j hj hjK
      generalize htk : (tk j).2 = q at ht
      obtain ⟨qF, qT⟩ := q
      dsimp only at ht
      unfold txtOf at ht
      split at ht <;> (try (cases ht; done))
      rename_i F
      split at ht <;> (try (cases ht; done))
      rename_i T
      split at ht <;> (try (cases ht; done))
      rename_i hFT
      simp only [Bool.and_eq_true, Nat.blt_eq] at hFT
      have hTc := Nat.le_of_ble_eq_true hFT.2
      have hoff' : off = pb.shift + bo := by
        cases hx : ex with
        | true => exact (hex1 hx).1
        | false => exact (hex2 hx).2.1.resolve_right (fun h => by omega)
      subst hoff'
      unfold bytesAt at ht
      split at ht <;> (try (cases ht; done))
      rename_i l1 hrd
      obtain ⟨arr, e, fr, q1, q2, q3⟩ := hr.rd hbb hrd
      obtain ⟨bs, e1, e2, rfl, e4⟩ := codesOf_sim q3 ht
      have hlen : (sl j).length = T - F := by
        have := congrArg List.length e1
        simp at this
        omega
      refine ⟨F, T, rfl, hFT.1, hTc, hlen, fun x hx => ⟨e2 _ (List.mem_map_of_mem hx), e4 x hx⟩, fun i hi => ?_⟩
      have := cell_of_arr q1 (k := i) (v := .int .u8 ((den γ (sl j)[i] : Nat) : Int)) (by rw [e1, List.getElem?_map, List.getElem?_map, List.getElem?_eq_getElem hi]; rfl)
      rw [← this]
      congr 2
      omega
    have hcall := hL p.blk (p.shift + co) pb.blk off nb c' l' K n tk (fun j => (sl j).map fun x => UInt8.ofNat (den γ x)) w hn (hr.bound _ _ hcb).2 (hr.bound _ _ hbb).2 hvb
      (hsv.imp id fun ⟨b, o, cap, e1, e2, e3⟩ => ⟨b, o, cap, e1, e2, fun j hj => ⟨e3 _ _ (h1 j hj).1, by rw [← e3 _ _ (h1 j hj).2.1]; congr 2, by rw [← e3 _ _ (h1 j hj).2.2]; congr 2⟩⟩)
      (fun j hj hjK => by
        obtain ⟨F, T, q1, q2, q3, q4, q5, q6⟩ := hstr j hj hjK
        refine ⟨F, T, q1, q2, by omega, by simpa using q4, fun i hi => ?_⟩
        have hi' : i < (sl j).length := by simpa using hi
        rw [q6 i hi']
        simp only [List.getElem_map]
        rw [toNat_ofNat (q5 _ (List.getElem_mem hi')).1])
    refine hcall.mono ?_
    rintro e W' ⟨hq, hB⟩
    have fin : ∀ (s' : List UInt8), (s'.map UInt8.toNat = lr.map (den γ) ∧ ∀ c ∈ lr, CodeOk γ c) → Ret P γ ρ s w (.tup [textOf lr, .bool br]) s (.returned (.tuple #[.string ⟨s'.toArray⟩, .bool br])) W' :=
      fun s' hs' => ⟨_, ρ, rfl, Goes.below hB, hr.below hB, .tup _ #[.string ⟨s'.toArray⟩, .bool br] (.cons _ _ _ _ (textOf_rel (by simpa using hs'.1) hs'.2) (.cons _ _ _ _ (.bool _) .nil))⟩
    have hmap : ∀ j, j < n → (tk j).1 = K → ((sl j).map fun x => UInt8.ofNat (den γ x)).map UInt8.toNat = (sl j).map (den γ) ∧ ∀ c ∈ sl j, CodeOk γ c := by
      intro j hj hjK
      obtain ⟨F, T, q1, q2, q3, q4, q5, q6⟩ := hstr j hj hjK
      refine ⟨?_, fun c hc => (q5 c hc).2⟩
      rw [List.map_map]
      exact List.map_congr_left fun x hx => toNat_ofNat (q5 x hx).1
    rcases hq with ⟨rfl, hno⟩ | ⟨j, hj, hjK, hjl, rfl⟩
    · rcases h3 with ⟨q1, rfl, rfl⟩ | ⟨i, q1, q2, _⟩
      · exact fin [] ⟨rfl, by simp⟩
      · exact absurd q2 (hno i q1)
    · rcases h3 with ⟨q1, rfl, rfl⟩ | ⟨i, q1, q2, q3, rfl, rfl⟩
      · exact absurd hjK (q1 j hj)
      · have : i = j := by
          rcases Nat.lt_trichotomy i j with h | h | h
          · exact absurd hjK (q3 j h hj)
          · exact h
          · exact absurd q2 (hjl i h q1)
        subst this
        exact fin _ (hmap i q1 q2)
end Go.Eng
end
