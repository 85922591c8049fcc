/- A part of the proof: an interpreter of the program, shown right once, and the laws that it computes. -/
import Derived.Test.YtpanfhfcpniodaaGreatDoorEng6
import Derived.Laws.Strings
set_option linter.constructorNameAsVariable false
set_option linter.unusedVariables false
set_option linter.unusedSimpArgs false
namespace Go.Eng
variable {P : Program} {γ : Gam}

/- numbers -/
theorem addI_eq (a b : Int) : addI a b = a + b := by cases a <;> cases b <;> rfl
theorem wrap64I_eq (x : Int) : wrap64I x = IntKind.i64.wrap x := by
  have key : ∀ x : Int, -9223372036854775808 ≤ x → x ≤ 9223372036854775807 → IntKind.i64.wrap x = x := by
    intro x h1 h2
    have e1 : (2 : Int) ^ IntKind.bits .i64 = 18446744073709551616 := by decide
    have e2 : (2 : Int) ^ (IntKind.bits .i64 - 1) = 9223372036854775808 := by decide
    simp only [IntKind.wrap, e1, e2]
    simp only [IntKind.signed, Bool.true_and, decide_eq_true_eq]
    split <;> omega
  cases x with
  | ofNat n =>
    show Bool.rec (motive := fun _ => Int) (IntKind.i64.wrap (.ofNat n)) (.ofNat n) (Nat.ble n top64) = _
    cases h : Nat.ble n top64 with
    | false => rfl
    | true =>
      have := Nat.le_of_ble_eq_true h
      unfold top64 at this
      exact (key (.ofNat n) (by have : (Int.ofNat n : Int) = (n : Int) := rfl; omega) (by have : (Int.ofNat n : Int) = (n : Int) := rfl; omega)).symm
  | negSucc n =>
    show Bool.rec (motive := fun _ => Int) (IntKind.i64.wrap (.negSucc n)) (.negSucc n) (Nat.ble n top64) = _
    cases h : Nat.ble n top64 with
    | false => rfl
    | true =>
      have := Nat.le_of_ble_eq_true h
      unfold top64 at this
      exact (key (.negSucc n) (by omega) (by omega)).symm
theorem wrapI_eq (k : IntKind) (x : Int) : wrapI k x = k.wrap x := by
  cases k <;> first
    | rfl
    | exact wrap64I_eq x
theorem eqI_eq (a b : Int) : eqI a b = (a == b) := by
  cases a with
  | ofNat m => cases b with
    | ofNat n =>
      show Nat.beq m n = _
      rw [Bool.eq_iff_iff]; simp; omega
    | negSucc n => show false = _; rw [Bool.eq_iff_iff]; simp
  | negSucc m => cases b with
    | ofNat n => show false = _; rw [Bool.eq_iff_iff]; simp
    | negSucc n =>
      show Nat.beq m n = _
      rw [Bool.eq_iff_iff]; simp
theorem ltI_eq (a b : Int) : ltI a b = decide (a < b) := by
  cases a with
  | ofNat m => cases b with
    | ofNat n =>
      show Nat.ble (m + 1) n = _
      rw [Bool.eq_iff_iff]; simp; omega
    | negSucc n => show false = _; rw [Bool.eq_iff_iff]; simp; omega
  | negSucc m => cases b with
    | ofNat n => show true = _; rw [Bool.eq_iff_iff]; simp; omega
    | negSucc n =>
      show Nat.ble (n + 1) m = _
      rw [Bool.eq_iff_iff]; simp; omega
theorem notB_eq (b : Bool) : notB b = !b := by cases b <;> rfl
theorem kindEq_iff (a b : IntKind) : kindEq a b = true ↔ a = b := by cases a <;> cases b <;> decide

theorem intDo_sim {op : BinOp} {k : IntKind} {a b : Int} {t : Nat} {v : IV} {w : World} {ρ : Rho} (h : intDo op k a b = some v) :
    ∃ v', (binOp op t (.int k a) (.int k b)).run P w = .ok v' w ∧ VR ρ γ v v' := by
  unfold intDo at h
  cases op <;> simp only [intOp] at h
  case add => cases h; exact ⟨.int k (k.wrap (a + b)), by simp only [binOp, Op.intArith, ne_eq, not_true_eq_false, if_false, Sem.run_pure], by rw [wrapI_eq, addI_eq]; exact .int _ _⟩
  case sub => cases h; exact ⟨.int k (k.wrap (a - b)), by simp only [binOp, Op.intArith, ne_eq, not_true_eq_false, if_false, Sem.run_pure], by rw [wrapI_eq]; exact .int _ _⟩
  case mul => cases h; exact ⟨.int k (k.wrap (a * b)), by simp only [binOp, Op.intArith, ne_eq, not_true_eq_false, if_false, Sem.run_pure], by rw [wrapI_eq]; exact .int _ _⟩
  case quo =>
    cases hb : eqI b 0 with
    | true => simp [hb] at h
    | false =>
      simp only [hb] at h; cases h
      have hb0 : b ≠ 0 := by rw [eqI_eq] at hb; simpa using hb
      exact ⟨.int k (k.wrap (a.tdiv b)), by simp only [binOp, Op.intDiv, ne_eq, not_true_eq_false, if_false, hb0, Sem.run_pure], by rw [wrapI_eq]; exact .int _ _⟩
  case rem =>
    cases hb : eqI b 0 with
    | true => simp [hb] at h
    | false =>
      simp only [hb] at h; cases h
      have hb0 : b ≠ 0 := by rw [eqI_eq] at hb; simpa using hb
      exact ⟨.int k (a.tmod b), by simp only [binOp, Op.intDiv, ne_eq, not_true_eq_false, if_false, hb0, Sem.run_pure], .int _ _⟩
  case and => cases h; exact ⟨.int k (k.wrap (bitsI k a &&& bitsI k b).toNat), by simp only [binOp, Op.intBits, ne_eq, not_true_eq_false, if_false, Sem.run_pure, bitsI], .int _ _⟩
  case or => cases h; exact ⟨.int k (k.wrap (bitsI k a ||| bitsI k b).toNat), by simp only [binOp, Op.intBits, ne_eq, not_true_eq_false, if_false, Sem.run_pure, bitsI], .int _ _⟩
  case xor => cases h; exact ⟨.int k (k.wrap (bitsI k a ^^^ bitsI k b).toNat), by simp only [binOp, Op.intBits, ne_eq, not_true_eq_false, if_false, Sem.run_pure, bitsI], .int _ _⟩
  case andNot => cases h; exact ⟨.int k (k.wrap (bitsI k a &&& ~~~ bitsI k b).toNat), by simp only [binOp, Op.intBits, ne_eq, not_true_eq_false, if_false, Sem.run_pure, bitsI], .int _ _⟩
  case shl =>
    cases hb : ltI b 0 with
    | true => simp [hb] at h
    | false =>
      simp only [hb] at h; cases h
      have hb0 : ¬ b < 0 := by rw [ltI_eq] at hb; simpa using hb
      exact ⟨.int k (k.wrap (a * 2 ^ shiftN k b)), by simp only [binOp, Op.shift, if_neg hb0, Sem.run_pure, shiftN], .int _ _⟩
  case shr =>
    cases hb : ltI b 0 with
    | true => simp [hb] at h
    | false =>
      simp only [hb] at h; cases h
      have hb0 : ¬ b < 0 := by rw [ltI_eq] at hb; simpa using hb
      exact ⟨.int k (a.fdiv (2 ^ shiftN k b)), by simp only [binOp, Op.shift, if_neg hb0, Sem.run_pure, shiftN], .int _ _⟩
  case eql => cases h; exact ⟨.bool (a == b), by simp only [binOp, Op.intCmp, ne_eq, not_true_eq_false, if_false, Sem.run_pure], by rw [eqI_eq]; exact .bool _⟩
  case neq => cases h; exact ⟨.bool (a != b), by simp only [binOp, Op.intCmp, ne_eq, not_true_eq_false, if_false, Sem.run_pure], by rw [notB_eq, eqI_eq]; exact .bool _⟩
  case lss => cases h; exact ⟨.bool (a < b), by simp only [binOp, Op.intCmp, ne_eq, not_true_eq_false, if_false, Sem.run_pure], by rw [ltI_eq]; exact .bool _⟩
  case leq => cases h; exact ⟨.bool (decide (a ≤ b)), by simp only [binOp, Op.intCmp, ne_eq, not_true_eq_false, if_false, Sem.run_pure], by
      rw [notB_eq, ltI_eq, show (!decide (b < a)) = decide (a ≤ b) by rw [Bool.eq_iff_iff]; simp]; exact .bool _⟩
  case gtr => cases h; exact ⟨.bool (decide (a > b)), by simp only [binOp, Op.intCmp, ne_eq, not_true_eq_false, if_false, Sem.run_pure], by rw [ltI_eq]; exact .bool _⟩
  case geq => cases h; exact ⟨.bool (decide (a ≥ b)), by simp only [binOp, Op.intCmp, ne_eq, not_true_eq_false, if_false, Sem.run_pure], by
      rw [notB_eq, ltI_eq, show (!decide (a < b)) = decide (a ≥ b) by rw [Bool.eq_iff_iff]; simp]; exact .bool _⟩

/- texts -/
theorem listEq_iff : ∀ (a b : List Nat), listEq a b = true ↔ a = b
  | [], [] => by simp [listEq]
  | [], _ :: _ => by simp [listEq]
  | _ :: _, [] => by simp [listEq]
  | a :: x, b :: y => by
    unfold listEq
    cases h : Nat.beq a b with
    | true => simp [Nat.eq_of_beq_eq_true h, listEq_iff x y]
    | false => simp; intro e; subst e; simp at h
def toNats (s : ByteArray) : List Nat := s.data.toList.map UInt8.toNat
theorem toNats_inj {a b : List UInt8} (h : a.map UInt8.toNat = b.map UInt8.toNat) : a = b := by
  induction a generalizing b with
  | nil => cases b with
    | nil => rfl
    | cons x y => simp at h
  | cons x l ih => cases b with
    | nil => simp at h
    | cons y m =>
      simp at h
      rw [ih h.2, UInt8.toNat_inj.1 h.1]
theorem toList_data (s : ByteArray) : s.toList = s.data.toList := ByteArray.toList_eq s
theorem listEq_bytes (x y : ByteArray) : listEq (x.data.toList.map UInt8.toNat) (y.data.toList.map UInt8.toNat) = (x.toList == y.toList) := by
  rw [Bool.eq_iff_iff, listEq_iff, toList_data, toList_data]
  simp only [beq_iff_eq]
  exact ⟨toNats_inj, fun h => by rw [h]⟩
theorem listLt_bytes : ∀ (x y : List UInt8), listLt (x.map UInt8.toNat) (y.map UInt8.toNat) = Op.bytesLess x y
  | _, [] => by cases ‹List UInt8› <;> simp [listLt, Op.bytesLess]
  | [], _ :: _ => by simp [listLt, Op.bytesLess]
  | a :: x, b :: y => by
    simp only [List.map_cons]
    unfold listLt Op.bytesLess
    rw [listLt_bytes x y]
    cases h : Nat.blt a.toNat b.toNat with
    | true =>
      have hlt : a < b := UInt8.lt_iff_toNat_lt.2 (by simpa [Nat.blt_eq] using h)
      simp [hlt]
    | false =>
      have hlt : ¬ a < b := by
        intro e
        have := UInt8.lt_iff_toNat_lt.1 e
        have h2 : Nat.blt a.toNat b.toNat = true := by simpa [Nat.blt_eq] using this
        rw [h2] at h; cases h
      simp only [hlt, decide_false, Bool.false_or]
      cases h2 : Nat.beq a.toNat b.toNat with
      | true =>
        have : a = b := UInt8.toNat_inj.1 (Nat.eq_of_beq_eq_true h2)
        simp [this]
      | false =>
        have : a ≠ b := by intro e; subst e; simp at h2
        simp [this]
theorem strOp_sim {op : BinOp} {a b : List Nat} {x y : ByteArray} {v : IV} {w : World} {ρ : Rho} (hx : x.data.toList.map UInt8.toNat = a) (hy : y.data.toList.map UInt8.toNat = b) (h : strOp op a b = some v) :
    ∃ v', (Op.stringOp op x y).run P w = .ok v' w ∧ VR ρ γ v v' := by
  subst hx hy
  cases op <;> simp only [strOp] at h <;> (try (cases h; done))
  case add =>
    cases hr : roomy (x.data.toList.map UInt8.toNat) (y.data.toList.map UInt8.toNat) with
    | false => simp [hr] at h
    | true =>
      simp only [hr] at h; cases h
      have hle : ¬ (((x.size + y.size : Nat) : Int) > IntKind.i64.max) := by
        have := Nat.le_of_ble_eq_true hr
        simp only [List.length_map, Array.length_toList, top64] at this
        have e1 : x.data.size = x.size := rfl
        have e2 : y.data.size = y.size := rfl
        rw [e1, e2] at this
        have e3 : IntKind.i64.max = 9223372036854775807 := by decide
        omega
      refine ⟨.string (x ++ y), by simp only [Op.stringOp, if_neg hle, Sem.run_pure], .str _ _ ?_⟩
      rw [ByteArray.data_append]
      simp
  case eql => cases h; exact ⟨.bool (x.toList == y.toList), by simp only [Op.stringOp, Sem.run_pure], by rw [listEq_bytes]; exact .bool _⟩
  case neq => cases h; exact ⟨.bool !(x.toList == y.toList), by simp only [Op.stringOp, Sem.run_pure], by rw [listEq_bytes]; exact .bool _⟩
  case lss => cases h; exact ⟨.bool (Op.bytesLess x.toList y.toList), by simp only [Op.stringOp, Sem.run_pure], by rw [listLt_bytes, ← toList_data, ← toList_data]; exact .bool _⟩
  case leq => cases h; exact ⟨.bool (Op.bytesLess x.toList y.toList || x.toList == y.toList), by simp only [Op.stringOp, Sem.run_pure], by rw [listEq_bytes, listLt_bytes, ← toList_data, ← toList_data]; exact .bool _⟩
  case gtr => cases h; exact ⟨.bool !(Op.bytesLess x.toList y.toList || x.toList == y.toList), by simp only [Op.stringOp, Sem.run_pure], by rw [listEq_bytes, listLt_bytes, ← toList_data, ← toList_data]; exact .bool _⟩
  case geq => cases h; exact ⟨.bool !(Op.bytesLess x.toList y.toList), by simp only [Op.stringOp, Sem.run_pure], by rw [listLt_bytes, ← toList_data, ← toList_data]; exact .bool _⟩
end Go.Eng
