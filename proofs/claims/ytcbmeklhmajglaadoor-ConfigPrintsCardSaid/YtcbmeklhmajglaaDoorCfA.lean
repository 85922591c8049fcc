/- A part of the proof: what the functions of the program compute, shown once each; the last text holds the statement. No condition beyond those of the statement. -/
import Derived.Lib.SplitLaws
import Derived.Lib.FieldsP
import Derived.Lib.DecodeNEq
import Derived.Test.YtcbmeklhmajglaaDoorPwordsx1
import Derived.Test.YtcbmeklhmajglaaDoorPwhichx1
import Derived.Test.YtcbmeklhmajglaaDoorPnumberx1
import Derived.WalkKit
import Derived.ProofKit
import Derived.Below
import Derived.KernelRfl
import Derived.Deep.DeepMust
import Derived.Test.YtcbmeklhmajglaaDoorEngB
import Derived.Laws.ResultCell
import Derived.Laws.Rows
import Derived.Test.YtcbmeklhmajglaaDoorPnamesx1
import Derived.Test.YtcbmeklhmajglaaDoorPnumbersx1
set_option linter.unusedSimpArgs false
set_option linter.unusedVariables false
section
namespace Go.CfgLaw
open Go.Lib
set_option linter.unusedVariables false
/-! ### Lines -/
def lns : List UInt8 → List (List UInt8)
  | [] => [[]]
  | c :: l => if c = 10 then [] :: lns l else match lns l with
    | [] => [[c]]
    | x :: r => (c :: x) :: r
theorem lns_ne : ∀ l, lns l ≠ []
  | [] => by simp [lns]
  | c :: l => by
    unfold lns
    split
    · simp
    · split <;> simp
theorem lns_end : ∀ a : List UInt8, 10 ∉ a → lns a = [a]
  | [], _ => rfl
  | c :: a, h => by
    have h1 : c ≠ 10 := fun e => h (by simp [e])
    unfold lns
    rw [if_neg h1, lns_end a (fun h2 => h (List.mem_cons_of_mem _ h2))]
theorem lns_cons : ∀ a b : List UInt8, 10 ∉ a → lns (a ++ 10 :: b) = a :: lns b
  | [], b, _ => by simp [lns]
  | c :: a, b, h => by
    have h1 : c ≠ 10 := fun e => h (by simp [e])
    have ih := lns_cons a b (fun h2 => h (List.mem_cons_of_mem _ h2))
    show (if c = 10 then [] :: lns (a ++ 10 :: b) else match lns (a ++ 10 :: b) with
      | [] => [[c]]
      | x :: r => (c :: x) :: r) = _
    rw [if_neg h1, ih]
theorem indexByte_at (c : UInt8) : ∀ a b : List UInt8, c ∉ a → indexByte (a ++ c :: b) c = a.length
  | [], b, _ => by simp [indexByte]
  | x :: a, b, h => by
    have h1 : x ≠ c := fun e => h (by simp [e])
    have ih := indexByte_at c a b (fun h2 => h (List.mem_cons_of_mem _ h2))
    rw [List.cons_append]
    unfold indexByte
    rw [if_neg (by simpa using h1), ih, if_neg (by simp)]
    simp
theorem indexByte_none (c : UInt8) : ∀ a : List UInt8, c ∉ a → indexByte a c = -1
  | [], _ => rfl
  | x :: a, h => by
    have h1 : x ≠ c := fun e => h (by simp [e])
    unfold indexByte
    rw [if_neg (by simpa using h1), indexByte_none c a (fun h2 => h (List.mem_cons_of_mem _ h2))]
    rfl
theorem splitK_lns : ∀ (k : Nat) (l : List UInt8), l.count 10 = k → splitK [10] 0 k l = lns l
  | 0, l, h => by
    rw [lns_end l (List.count_eq_zero.1 h)]
    rfl
  | k + 1, l, h => by
    have hm : (10 : UInt8) ∈ l := by
      rw [← List.count_pos_iff]
      omega
    obtain ⟨a, b, rfl, ha⟩ := List.eq_append_cons_of_mem hm
    rw [List.count_append, List.count_cons_self, List.count_eq_zero.2 ha] at h
    unfold splitK
    have hi : index (a ++ 10 :: b) [10] = (a.length : Int) := by rw [index_one, indexByte_at 10 a b ha]
    rw [hi, if_neg (by simp), lns_cons a b ha, Int.toNat_natCast, Nat.add_zero, List.take_left' rfl]
    have hd : (a ++ 10 :: b).drop (a.length + [(10 : UInt8)].length) = b := by
      rw [← List.drop_drop, List.drop_left' rfl]
      rfl
    rw [hd, splitK_lns k b (by omega)]
theorem split_lns (s : ByteArray) : (splitB ⟨#[10]⟩ 0 (countB s ⟨#[10]⟩) s).map (·.data.toList) = lns s.data.toList := by
  rw [splitB_data]
  have : countB s ⟨#[10]⟩ = s.data.toList.count 10 := by
    show count s.data.toList [10] = _
    exact count_one _ _
  rw [this]
  exact splitK_lns _ _ rfl
/-! ### Words -/
def sp (c : UInt8) : Bool := c == 32 || c == 9
def wa : List UInt8 → List UInt8 → List (List UInt8)
  | cur, [] => if cur = [] then [] else [cur]
  | cur, c :: l => if sp c then (if cur = [] then wa [] l else cur :: wa [] l) else wa (cur ++ [c]) l
def wds (l : List UInt8) : List (List UInt8) := wa [] l
theorem wa_many : ∀ (x cur l : List UInt8), (∀ c ∈ x, sp c = false) → wa cur (x ++ l) = wa (cur ++ x) l
  | [], cur, l, _ => by simp
  | c :: x, cur, l, h => by
    rw [List.cons_append]
    conv => lhs; unfold wa
    rw [if_neg (by rw [h c (by simp)]; decide), wa_many x (cur ++ [c]) l (fun d hd => h d (by simp [hd])), List.append_assoc]
    rfl
theorem byte_get (s : ByteArray) (i : Nat) (h : i < s.size) : s.data.toList.drop i = s.get! i :: s.data.toList.drop (i + 1) := by
  have h' : i < s.data.toList.length := by simpa using h
  rw [List.drop_eq_getElem_cons h']
  congr 1
  have h2 : i < s.data.size := h
  show _ = s.data[i]!
  rw [getElem!_pos _ i h2]
  rfl
theorem get_lt (s : ByteArray) (i : Nat) : (s.get! i).toNat < 256 := UInt8.toNat_lt _
/-- What the first byte says of a sign. -/
theorem sign_first (s : ByteArray) (pos : Nat) (h : pos < s.size) :
    ((s.get! pos).toNat < 128 → Utf8.decode s pos = ((s.get! pos).toNat, 1)) ∧
    (128 ≤ (s.get! pos).toNat → 128 ≤ (Utf8.decode s pos).1 ∧ 1 ≤ (Utf8.decode s pos).2 ∧ pos + (Utf8.decode s pos).2 ≤ s.size ∧ ∀ j, j < (Utf8.decode s pos).2 → 128 ≤ (s.get! (pos + j)).toNat) := by
  rw [Lib.decode_at]
  have l0 := get_lt s pos
  have l1 := get_lt s (pos + 1)
  have l2 := get_lt s (pos + 2)
  have l3 := get_lt s (pos + 3)
  have g0 : s.get! (pos + 0) = s.get! pos := rfl
  refine ⟨fun h0 => by rw [Lib.decodeN, if_pos h0], fun h0 => ?_⟩
  have one : ∀ j, j < 1 → 128 ≤ (s.get! (pos + j)).toNat := fun j hj => by
    obtain rfl : j = 0 := by omega
    exact h0
  unfold Lib.decodeN
  rw [if_neg (by omega)]
  by_cases c1 : (s.get! pos).toNat / 32 = 6 ∧ 1 < s.size - pos ∧ (s.get! (pos + 1)).toNat / 64 = 2
  · rw [if_pos c1]
    split
    · refine ⟨by simp only; omega, by simp, by simp only; omega, fun j hj => ?_⟩
      rcases (show j = 0 ∨ j = 1 by simp only at hj; omega) with rfl | rfl
      · exact h0
      · omega
    · exact ⟨by decide, by decide, by simp only; omega, one⟩
  · rw [if_neg c1]
    by_cases c2 : (s.get! pos).toNat / 16 = 14 ∧ (1 < s.size - pos ∧ (s.get! (pos + 1)).toNat / 64 = 2) ∧ 2 < s.size - pos ∧ (s.get! (pos + 2)).toNat / 64 = 2
    · rw [if_pos c2]
      split
      · refine ⟨by simp only; omega, by simp, by simp only; omega, fun j hj => ?_⟩
        rcases (show j = 0 ∨ j = 1 ∨ j = 2 by simp only at hj; omega) with rfl | rfl | rfl
        · exact h0
        · omega
        · omega
      · exact ⟨by decide, by decide, by simp only; omega, one⟩
    · rw [if_neg c2]
      by_cases c3 : (s.get! pos).toNat / 8 = 30 ∧ (1 < s.size - pos ∧ (s.get! (pos + 1)).toNat / 64 = 2) ∧ (2 < s.size - pos ∧ (s.get! (pos + 2)).toNat / 64 = 2) ∧ 3 < s.size - pos ∧ (s.get! (pos + 3)).toNat / 64 = 2
      · rw [if_pos c3]
        split
        · refine ⟨by simp only; omega, by simp, by simp only; omega, fun j hj => ?_⟩
          rcases (show j = 0 ∨ j = 1 ∨ j = 2 ∨ j = 3 by simp only at hj; omega) with rfl | rfl | rfl | rfl
          · exact h0
          · omega
          · omega
          · omega
        · exact ⟨by decide, by decide, by simp only; omega, one⟩
      · rw [if_neg c3]
        exact ⟨by decide, by decide, by simp only; omega, one⟩
/-- A blank or a tab. -/
def pb (r : Nat) : Bool := r == 32 || r == 9
theorem sp_pb (c : UInt8) : pb c.toNat = sp c := by
  have h : ∀ n : Fin 256, pb n.val = sp (UInt8.ofNat n.val) := by decide +kernel
  have := h ⟨c.toNat, UInt8.toNat_lt c⟩
  simpa using this
theorem sp_high (c : UInt8) (h : 128 ≤ c.toNat) : sp c = false := by
  rw [← sp_pb]
  unfold pb
  have h1 : ¬ c.toNat = 32 := by omega
  have h2 : ¬ c.toNat = 9 := by omega
  simp [h1, h2]
def ext (s : ByteArray) (x : Nat × Nat) : List UInt8 := (s.extract x.1 x.2).data.toList
theorem ext_eq (s : ByteArray) (a b : Nat) : ext s (a, b) = (s.data.toList.take b).drop a := by
  unfold ext
  simp only
  rw [ByteArray.data_extract, Array.toList_extract]
  simp [List.drop_take]
def curOf (s : ByteArray) (pos : Nat) : Option Nat → List UInt8
  | none => []
  | some a => ext s (a, pos)
theorem ext_grow (s : ByteArray) (a b n : Nat) (hab : a ≤ b) (hn : b + n ≤ s.size) : ext s (a, b + n) = ext s (a, b) ++ ((s.data.toList.drop b).take n) := by
  rw [ext_eq, ext_eq, List.take_add, List.drop_append_of_le_length (by simp; omega)]
theorem ext_ne (s : ByteArray) (a b : Nat) (hab : a < b) (hb : b ≤ s.size) : ext s (a, b) ≠ [] := by
  rw [ext_eq]
  intro h
  have := congrArg List.length h
  simp at this
  omega
theorem fields_wa (s : ByteArray) : ∀ (f pos : Nat) (st : Option Nat) (acc : List (Nat × Nat)), pos ≤ s.size → s.size ≤ pos + f → (∀ a, st = some a → a < pos) →
    (closeSpans s (spansFromP pb s f pos st acc)).map (ext s) = acc.map (ext s) ++ wa (curOf s pos st) (s.data.toList.drop pos) := by
  intro f
  induction f with
  | zero =>
    intro pos st acc h1 h2 h3
    obtain rfl : pos = s.size := by omega
    rw [show s.data.toList.drop s.size = [] from List.drop_of_length_le (by simp)]
    cases st with
    | none => simp [spansFromP, closeSpans, wa, curOf]
    | some a =>
      have := ext_ne s a s.size (h3 a rfl) (Nat.le_refl _)
      simp [spansFromP, closeSpans, wa, curOf, this]
  | succ f ih =>
    intro pos st acc h1 h2 h3
    by_cases hp : pos < s.size
    · simp only [spansFromP, if_pos hp]
      obtain ⟨k1, k2⟩ := sign_first s pos hp
      by_cases h128 : (s.get! pos).toNat < 128
      · have k := k1 h128
        rw [k]
        simp only
        rw [byte_get s pos hp]
        rw [sp_pb]
        by_cases hs : sp (s.get! pos) = true
        · rw [if_pos hs]
          conv => rhs; unfold wa
          rw [if_pos hs]
          cases st with
          | none =>
            simp only
            rw [ih (pos + 1) none acc (by omega) (by omega) (by simp)]
            simp [curOf]
          | some a =>
            simp only
            rw [ih (pos + 1) none _ (by omega) (by omega) (by simp), if_neg (show ¬ curOf s pos (some a) = [] from ext_ne s a pos (h3 a rfl) h1)]
            simp [curOf]
        · rw [if_neg hs]
          conv => rhs; unfold wa
          rw [if_neg hs]
          cases st with
          | none =>
            simp only
            rw [ih (pos + 1) (some pos) acc (by omega) (by omega) (by simp)]
            congr 2
            simp only [curOf, List.nil_append]
            rw [ext_grow s pos pos 1 (Nat.le_refl _) (by omega), byte_get s pos hp, ext_eq]
            simp
          | some a =>
            simp only
            have := h3 a rfl
            rw [ih (pos + 1) (some a) acc (by omega) (by omega) (by simp; omega)]
            congr 2
            simp only [curOf]
            rw [ext_grow s a pos 1 (by omega) (by omega), byte_get s pos hp]
            rfl
      · obtain ⟨j1, j2, j3, j4⟩ := k2 (by omega)
        generalize (Utf8.decode s pos).1 = R at *
        generalize (Utf8.decode s pos).2 = K at *
        have hpR : pb R = false := by
          unfold pb
          have h1 : ¬ R = 32 := by omega
          have h2 : ¬ R = 9 := by omega
          simp [h1, h2]
        rw [if_neg (by rw [hpR]; decide)]
        have hparts : s.data.toList.drop pos = (s.data.toList.drop pos).take K ++ s.data.toList.drop (pos + K) := by
          rw [← List.drop_drop, List.take_append_drop]
        have hall : ∀ c ∈ (s.data.toList.drop pos).take K, sp c = false := by
          intro c hc
          obtain ⟨i, hi, rfl⟩ := List.mem_iff_getElem.1 hc
          rw [List.length_take, List.length_drop] at hi
          have hl : s.data.toList.length = s.size := by simp
          rw [List.getElem_take, List.getElem_drop]
          have := j4 i (by omega)
          apply sp_high
          have e : s.data.toList[pos + i]'(by omega) = s.get! (pos + i) := by
            have h2 : pos + i < s.data.size := by have : s.data.size = s.size := rfl; omega
            show _ = s.data[pos + i]!
            rw [getElem!_pos s.data (pos + i) h2]
            rfl
          rw [e]
          exact this
        rw [hparts, wa_many _ _ _ hall]
        cases st with
        | none =>
          simp only
          rw [ih (pos + K) (some pos) acc j3 (by omega) (by simp; omega)]
          congr 2
          simp only [curOf, List.nil_append]
          rw [ext_grow s pos pos K (Nat.le_refl _) j3, ext_eq]
          simp
        | some a =>
          simp only
          have := h3 a rfl
          rw [ih (pos + K) (some a) acc j3 (by omega) (by simp; omega)]
          congr 2
          simp only [curOf]
          rw [ext_grow s a pos K (by omega) j3]
    · rw [spansFromP_end _ _ _ _ _ _ hp]
      obtain rfl : pos = s.size := by omega
      rw [show s.data.toList.drop s.size = [] from List.drop_of_length_le (by simp)]
      cases st with
      | none => simp [closeSpans, wa, curOf]
      | some a =>
        have := ext_ne s a s.size (h3 a rfl) (Nat.le_refl _)
        simp [closeSpans, wa, curOf, this]
theorem fields_wds (s : ByteArray) : (goFieldsP pb s).map (·.data.toList) = wds s.data.toList := by
  have h := fields_wa s s.size 0 none [] (Nat.zero_le _) (by omega) (by simp)
  rw [List.drop_zero] at h
  unfold goFieldsP spansOfP
  rw [List.map_map]
  exact h
end Go.CfgLaw
end
section
namespace Go.Proofs.YtcbmeklhmajglaaDoor
open Go.RowKit Go.CfgLaw Go.Proofs.YtcbmeklhmajglaaDoorW.PrintWords Go.Proofs.YtcbmeklhmajglaaDoorW.PrintLast Go.Proofs.YtcbmeklhmajglaaDoorW.PrintMore
set_option linter.unusedVariables false
def ofL (l : List UInt8) : ByteArray := ⟨l.toArray⟩
theorem bt_get (s : ByteArray) (i : Nat) (h : i < s.size) : bt s (i : Int) = ((s.get! i).toNat : Int) := by
  unfold bt
  rw [dif_pos (by rw [Int.toNat_natCast]; exact h)]
  simp only [Int.toNat_natCast]
  congr 2
  have h2 : i < s.data.size := h
  show s.data[i] = s.data[i]!
  rw [getElem!_pos s.data i h2]
theorem sp_iff (c : UInt8) : sp c = true ↔ (c.toNat : Int) = 32 ∨ (c.toNat : Int) = 9 := by
  rw [← sp_pb]
  unfold pb
  simp
  omega
theorem ofL_ext (s : ByteArray) (a b : Nat) : s.extract a b = ofL (ext s (a, b)) := by
  unfold ofL ext
  simp only [Array.toArray_toList]
open Pwords in
theorem words_l (d : Nat) : (∀ (k : Nat) (x : ByteArray) (acc : List ByteArray) (i : Nat), i ≤ x.size → x.size - i ≤ d → acc.length + (x.size - i) < 1000000000 → x.size < 1000000000 → 3 * d + 5 ≤ k →
      correctorref18_words.l0 k x acc (i : Int) = some (acc ++ (wa [] (x.data.toList.drop i)).map ofL)) ∧
    (∀ (k : Nat) (x : ByteArray) (acc : List ByteArray) (a j : Nat), a < j → j ≤ x.size → x.size - j ≤ d → acc.length + (x.size - j) < 1000000000 → x.size < 1000000000 → 3 * d + 5 ≤ k →
      correctorref18_words.l1 k x acc (a : Int) (j : Int) = some (acc ++ (wa (ext x (a, j)) (x.data.toList.drop j)).map ofL)) := by
  induction d with
  | zero =>
    refine ⟨?_, ?_⟩
    · intro k x acc i h1 h2 h3 hx hk
      obtain ⟨k, rfl⟩ : ∃ m, k = m + 1 := ⟨k - 1, by omega⟩
      simp only [correctorref18_words.l0]
      rw [if_neg (by omega), List.drop_of_length_le (by simp; omega)]
      simp [wa]
    · intro k x acc a j h0 h1 h2 h3 h4 hk
      obtain ⟨k, rfl⟩ : ∃ m, k = m + 2 := ⟨k - 2, by omega⟩
      obtain rfl : j = x.size := by omega
      simp only [correctorref18_words.l1]
      rw [if_neg (by omega), if_pos (by omega), if_pos (by omega), if_pos (by omega), if_pos (by omega), List.drop_of_length_le (by simp)]
      simp only [correctorref18_words.l0]
      rw [if_neg (by omega), Int.toNat_natCast, Int.toNat_natCast, ofL_ext]
      have := ext_ne x a x.size h0 (Nat.le_refl _)
      simp [wa, this]
  | succ d ih =>
    obtain ⟨ihA, ihB⟩ := ih
    have stepA : ∀ (k : Nat) (x : ByteArray) (acc : List ByteArray) (i : Nat), i < x.size → sp (x.get! i) = true → x.size - i ≤ d + 1 → acc.length + (x.size - i) < 1000000001 → 3 * d + 7 ≤ k → x.size < 1000000000 →
        correctorref18_words.l0 k x acc (i : Int) = some (acc ++ (wa [] (x.data.toList.drop (i + 1))).map ofL) := by
      intro k x acc i h1 hs h2 h3 hk hx
      obtain ⟨k, rfl⟩ : ∃ m, k = m + 2 := ⟨k - 2, by omega⟩
      simp only [correctorref18_words.l0]
      rw [if_pos (by omega), if_pos (by omega), bt_get x i h1]
      have e : wrap64 ((i : Int) + 1) = ((i + 1 : Nat) : Int) := by unfold wrap64; omega
      rcases (sp_iff _).1 hs with h | h
      · rw [if_pos h]
        simp only [correctorref18_words.j1, if_true]
        rw [e]
        exact ihA k x acc (i + 1) (by omega) (by omega) (by omega) hx (by omega)
      · rw [if_neg (by omega), h]
        simp only [correctorref18_words.j1]
        rw [if_pos (by decide), e]
        exact ihA k x acc (i + 1) (by omega) (by omega) (by omega) hx (by omega)
    refine ⟨?_, ?_⟩
    · intro k x acc i h1 h2 h3 hx hk
      by_cases hi : i < x.size
      · rw [byte_get x i hi]
        by_cases hs : sp (x.get! i) = true
        · rw [stepA k x acc i hi hs h2 (by omega) (by omega) hx]
          conv => rhs; unfold wa
          rw [if_pos hs]
          simp
        · obtain ⟨k, rfl⟩ : ∃ m, k = m + 3 := ⟨k - 3, by omega⟩
          have hn : ¬ ((x.get! i).toNat : Int) = 32 ∧ ¬ ((x.get! i).toNat : Int) = 9 := by
            rw [sp_iff] at hs
            omega
          simp only [correctorref18_words.l0]
          rw [if_pos (by omega), if_pos (by omega), bt_get x i hi, if_neg hn.1]
          simp only [correctorref18_words.j1]
          rw [if_neg (by simpa using hn.2)]
          simp only [correctorref18_words.l1]
          rw [if_pos (by omega), if_pos (by omega), bt_get x i hi, if_neg hn.1, if_neg hn.2, show wrap64 ((i : Int) + 1) = ((i + 1 : Nat) : Int) by unfold wrap64; omega]
          rw [ihB k x acc i (i + 1) (by omega) (by omega) (by omega) (by omega) hx (by omega)]
          conv => rhs; unfold wa
          rw [if_neg hs]
          congr 4
          rw [ext_grow x i i 1 (Nat.le_refl _) (by omega), byte_get x i hi, ext_eq]
          simp
      · obtain ⟨k, rfl⟩ : ∃ m, k = m + 1 := ⟨k - 1, by omega⟩
        simp only [correctorref18_words.l0]
        rw [if_neg (by omega), List.drop_of_length_le (by simp; omega)]
        simp [wa]
    · intro k x acc a j h0 h1 h2 h3 h4 hk
      obtain ⟨k, rfl⟩ : ∃ m, k = m + 1 := ⟨k - 1, by omega⟩
      by_cases hj : j < x.size
      · rw [byte_get x j hj]
        simp only [correctorref18_words.l1]
        rw [if_pos (by omega), if_pos (by omega), bt_get x j hj]
        by_cases hs : sp (x.get! j) = true
        · conv => rhs; unfold wa
          rw [if_pos hs, if_neg (ext_ne x a j h0 h1)]
          have hA := stepA k x (acc ++ [x.extract a j]) j hj hs h2 (by simp; omega) (by omega) h4
          rcases (sp_iff _).1 hs with h | h
          · rw [if_pos h, if_pos (by omega), if_pos (by omega), if_pos (by omega), if_pos (by omega), Int.toNat_natCast, Int.toNat_natCast, hA, ofL_ext]
            simp
          · rw [if_neg (by omega), if_pos h, if_pos (by omega), if_pos (by omega), if_pos (by omega), if_pos (by omega), Int.toNat_natCast, Int.toNat_natCast, hA, ofL_ext]
            simp
        · have hn : ¬ ((x.get! j).toNat : Int) = 32 ∧ ¬ ((x.get! j).toNat : Int) = 9 := by
            rw [sp_iff] at hs
            omega
          rw [if_neg hn.1, if_neg hn.2, show wrap64 ((j : Int) + 1) = ((j + 1 : Nat) : Int) by unfold wrap64; omega]
          rw [ihB k x acc a (j + 1) (by omega) (by omega) (by omega) (by omega) h4 (by omega)]
          conv => rhs; unfold wa
          rw [if_neg hs]
          congr 4
          rw [ext_grow x a j 1 (by omega) (by omega), byte_get x j hj]
          rfl
      · obtain rfl : j = x.size := by omega
        obtain ⟨k, rfl⟩ : ∃ m, k = m + 1 := ⟨k - 1, by omega⟩
        simp only [correctorref18_words.l1]
        rw [if_neg (by omega), if_pos (by omega), if_pos (by omega), if_pos (by omega), if_pos (by omega), List.drop_of_length_le (by simp)]
        simp only [correctorref18_words.l0]
        rw [if_neg (by omega), Int.toNat_natCast, Int.toNat_natCast, ofL_ext]
        have := ext_ne x a x.size h0 (Nat.le_refl _)
        simp [wa, this]
theorem words_f (x : ByteArray) (hx : x.size < 1000000000) : Pwords.correctorref18_words.f (3 * x.size + 5) x = some ((wds x.data.toList).map ofL) := by
  have h := (words_l x.size).1 (3 * x.size + 5) x [] 0 (Nat.zero_le _) (by omega) (by simpa using hx) hx (Nat.le_refl _)
  rw [List.drop_zero, List.nil_append] at h
  exact h
/-! ### Numbers -/
def dig (c : UInt8) : Bool := 48 ≤ c.toNat && c.toNat ≤ 57
def decOf (acc : Nat) (l : List UInt8) : Nat := l.foldl (fun n c => 10 * n + (c.toNat - 48)) acc
def numF (l : List UInt8) : Option Nat := if 1 ≤ l.length ∧ l.length ≤ 3 ∧ l.all dig = true then some (decOf 0 l) else none
def bnd : Nat → Nat
  | 0 => 1
  | 1 => 10
  | 2 => 100
  | _ => 1000
theorem bnd_le (i : Nat) : bnd i ≤ 1000 := by
  unfold bnd
  split <;> decide
theorem bnd_succ (i : Nat) (h : i < 3) : bnd (i + 1) = 10 * bnd i := by
  match i, h with
  | 0, _ => rfl
  | 1, _ => rfl
  | 2, _ => rfl
theorem w_dig (acc b : Nat) (h : acc < 100000) (hb : b < 256) (h48 : 48 ≤ b) : wrap64 (wrap64 (10 * (acc : Int)) + ((b : Int) - 48) % 256) = ((10 * acc + (b - 48) : Nat) : Int) := by
  have a : ((b : Int) - 48) % 256 = ((b - 48 : Nat) : Int) := by omega
  have w : wrap64 (10 * (acc : Int)) = ((10 * acc : Nat) : Int) := by
    unfold wrap64
    omega
  rw [a, w]
  have hm : b - 48 < 256 := by omega
  generalize b - 48 = m at hm ⊢
  have e : ((10 * acc : Nat) : Int) + (m : Int) = ((10 * acc + m : Nat) : Int) := by omega
  rw [e]
  generalize hn : 10 * acc + m = n
  have : n < 2000000 := by omega
  clear hn e w a
  unfold wrap64
  omega
open Pnumber in
theorem number_l (d : Nat) : ∀ (k : Nat) (x : ByteArray) (acc i : Nat), x.size - i ≤ d → i ≤ x.size → x.size ≤ 3 → acc < bnd i → d + 2 ≤ k →
    correctorref18_number.l0 k x (acc : Int) (i : Int) = some (if (x.data.toList.drop i).all dig = true then (decOf acc (x.data.toList.drop i) : Int) else -1) := by
  induction d with
  | zero =>
    intro k x acc i h1 h2 h3 h4 hk
    obtain ⟨k, rfl⟩ : ∃ m, k = m + 1 := ⟨k - 1, by omega⟩
    simp only [correctorref18_number.l0]
    rw [if_neg (by omega), List.drop_of_length_le (by simp; omega)]
    simp [decOf]
  | succ d ih =>
    intro k x acc i h1 h2 h3 h4 hk
    obtain ⟨k, rfl⟩ : ∃ m, k = m + 1 := ⟨k - 1, by omega⟩
    simp only [correctorref18_number.l0]
    by_cases hi : i < x.size
    · rw [if_pos (by omega), if_pos (by omega), bt_get x i hi, byte_get x i hi]
      have hlt := get_lt x i
      by_cases h48 : (x.get! i).toNat < 48
      · rw [if_pos (by omega), if_neg]
        simp [dig]; omega
      · rw [if_neg (by omega)]
        by_cases h57 : (x.get! i).toNat > 57
        · rw [if_pos (by omega), if_neg]
          simp [dig]; omega
        · rw [if_neg (by omega)]
          have hp := bnd_le i
          have hp2 := bnd_succ i (by omega)
          have e1 : wrap64 (wrap64 (10 * (acc : Int)) + (((x.get! i).toNat : Int) - 48) % 256) = ((10 * acc + ((x.get! i).toNat - 48) : Nat) : Int) := w_dig acc _ (by omega) hlt (by omega)
          rw [e1, show wrap64 ((i : Int) + 1) = ((i + 1 : Nat) : Int) by unfold wrap64; omega]
          rw [ih k x _ (i + 1) (by omega) (by omega) h3 (by omega) (by omega)]
          have hd : dig (x.get! i) = true := by simp [dig]; omega
          simp only [List.all_cons, hd, Bool.true_and, decOf, List.foldl_cons]
    · rw [if_neg (by omega), List.drop_of_length_le (by simp; omega)]
      simp [decOf]
open Pnumber in
theorem number_f (x : ByteArray) : correctorref18_number.f 7 x = some (match numF x.data.toList with | some n => (n : Int) | none => -1) := by
  simp only [correctorref18_number.f]
  have hl : x.data.toList.length = x.size := by simp
  by_cases h1 : x.size < 1
  · rw [if_pos (by omega)]
    simp only [correctorref18_number.j0, if_true]
    rw [numF, if_neg (by omega)]
  · rw [if_neg (by omega)]
    by_cases h3 : x.size > 3
    · rw [show decide ((x.size : Int) > 3) = true from decide_eq_true (by omega)]
      simp only [correctorref18_number.j0, if_true]
      rw [numF, if_neg (by omega)]
    · rw [show decide ((x.size : Int) > 3) = false from decide_eq_false (by omega)]
      simp only [correctorref18_number.j0, Bool.false_eq_true, if_false]
      have h := number_l 3 6 x 0 0 (by omega) (by omega) (by omega) (by decide) (by omega)
      rw [List.drop_zero] at h
      have h' : correctorref18_number.l0 6 x 0 0 = _ := h
      rw [h']
      unfold numF
      by_cases ha : x.data.toList.all dig = true
      · rw [if_pos ha, if_pos ⟨by omega, by omega, ha⟩]
      · rw [if_neg ha, if_neg (fun h => ha h.2.2)]
/-! ### Places of texts -/
def fi (x : List UInt8) : List (List UInt8) → Nat → Int
  | [], _ => -1
  | y :: r, i => if y = x then i else fi x r (i + 1)
open Pwhich in
theorem which_l (x : ByteArray) (l : List ByteArray) (hl : l.length < 1000000) : ∀ (d k i : Nat), l.length - i ≤ d → i ≤ l.length → d + 2 ≤ k →
    correctorref18_which.l0 k x l (i : Int) = some (fi x.data.toList ((l.drop i).map (·.data.toList)) i) := by
  intro d
  induction d with
  | zero =>
    intro k i h1 h2 hk
    obtain ⟨k, rfl⟩ : ∃ m, k = m + 1 := ⟨k - 1, by omega⟩
    simp only [correctorref18_which.l0]
    rw [if_neg (by omega), List.drop_of_length_le (by omega)]
    rfl
  | succ d ih =>
    intro k i h1 h2 hk
    obtain ⟨k, rfl⟩ : ∃ m, k = m + 1 := ⟨k - 1, by omega⟩
    simp only [correctorref18_which.l0]
    by_cases hi : i < l.length
    · rw [if_pos (by omega), if_pos (by omega), List.drop_eq_getElem_cons hi, List.map_cons]
      have e : rdOf ByteArray.empty l (i : Int) = l[i] := by
        unfold rdOf
        rw [Int.toNat_natCast, List.getD_eq_getElem?_getD, List.getElem?_eq_getElem hi]
        rfl
      have e2 : ∀ s : ByteArray, s.toList = s.data.toList := fun s => ByteArray.toList_eq s
      rw [e, e2, e2]
      unfold fi
      by_cases h : l[i].data.toList = x.data.toList
      · rw [if_pos h, if_pos h]
      · rw [if_neg h, if_neg h, show wrap64 ((i : Int) + 1) = ((i + 1 : Nat) : Int) by unfold wrap64; omega]
        exact ih k (i + 1) (by omega) (by omega) (by omega)
    · rw [if_neg (by omega), List.drop_of_length_le (by omega)]
      rfl
open Pwhich in
theorem which_f (x : ByteArray) (l : List ByteArray) (hl : l.length < 1000000) : correctorref18_which.f (l.length + 2) x l = some (fi x.data.toList (l.map (·.data.toList)) 0) := by
  have h := which_l x l hl l.length (l.length + 2) 0 (by omega) (by omega) (Nat.le_refl _)
  rw [List.drop_zero] at h
  exact h
end Go.Proofs.YtcbmeklhmajglaaDoor
end
section
namespace Go.Proofs.YtcbmeklhmajglaaDoor
open Go.RowKit Go.CfgLaw Go.Proofs.YtcbmeklhmajglaaDoorW.PrintWords
set_option linter.unusedVariables false
/-- A config. -/
structure Cfg where
  on : Nat → Bool
  a : Int
  b : Int
  c : Int
  d : Int
abbrev cells (f : Cfg) : Array Value := #[.bool (f.on 0), .bool (f.on 1), .bool (f.on 2), .bool (f.on 3), .bool (f.on 4), .bool (f.on 5), .bool (f.on 6), .bool (f.on 7), .bool (f.on 8), .bool (f.on 9), .int .i64 f.a, .int .i64 f.b, .int .i64 f.c, .int .i64 f.d]
abbrev cv (f : Cfg) : Value := .agg (cells f)
def setOn (f : Cfg) (k : Nat) (v : Bool) : Cfg := { f with on := fun i => if i = k then v else f.on i }
/-- What may be. -/
def okC (f : Cfg) : Bool := decide (1 ≤ f.a) && decide (f.a ≤ 500) && decide (1 ≤ f.b) && decide (f.b ≤ 10) && decide (0 ≤ f.c) && decide (f.c ≤ 20) && decide (1 ≤ f.d) && decide (f.d ≤ 50)
def plain : Cfg := ⟨fun i => decide (0 < i) && decide (i ≤ 9) && !(decide (i = 5)), 80, 2, 2, 20⟩
def zeroC : Cfg := ⟨fun _ => false, 0, 0, 0, 0⟩
set_option maxRecDepth 100000 in
set_option maxHeartbeats 1000000 in
theorem okC_iff (f : Cfg) : okC f = true ↔ (1 ≤ f.a ∧ f.a ≤ 500) ∧ (1 ≤ f.b ∧ f.b ≤ 10) ∧ (0 ≤ f.c ∧ f.c ≤ 20) ∧ 1 ≤ f.d ∧ f.d ≤ 50 := by
  unfold okC
  simp only [Bool.and_eq_true, decide_eq_true_eq]
  omega
theorem check22 (f : Cfg) (w : World) : Calls Tryd.prog 22 #[cv f] w fun e w' => e = .returned (.int .i64 (if okC f then 0 else 1)) ∧ Below w.heap.size w w' := by
  obtain ⟨R, hR⟩ : ∃ R : Int, (if okC f then 0 else 1) = R := ⟨_, rfl⟩
  rw [hR]
  have hi := okC_iff f
  have HR : Aside0 (((1 ≤ f.a ∧ f.a ≤ 500) ∧ (1 ≤ f.b ∧ f.b ≤ 10) ∧ (0 ≤ f.c ∧ f.c ≤ 20) ∧ 1 ≤ f.d ∧ f.d ≤ 50 → 0 = R) ∧ (¬ ((1 ≤ f.a ∧ f.a ≤ 500) ∧ (1 ≤ f.b ∧ f.b ≤ 10) ∧ (0 ≤ f.c ∧ f.c ≤ 20) ∧ 1 ≤ f.d ∧ f.d ≤ 50) → 1 = R)) :=
    ⟨⟨fun h => by rw [← hR, if_pos (hi.2 h)], fun h => by rw [← hR, if_neg (fun h2 => h (hi.1 h2))]⟩⟩
  clear hR hi
  obtain ⟨on, a, b, c, d⟩ := f
  simp only [cv, cells]
  dsimp only at HR
  generalize on 0 = o0; generalize on 1 = o1; generalize on 2 = o2; generalize on 3 = o3; generalize on 4 = o4
  generalize on 5 = o5; generalize on 6 = o6; generalize on 7 = o7; generalize on 8 = o8; generalize on 9 = o9
  go_enter Tryd.func22, Tryd.ntmps22
  go_wp2
  all_goals go_ret
  all_goals refine ⟨?_, (Below.refl _ w).alloc (Nat.le_refl _) _⟩
  all_goals first
    | (have h := HR.out.1 (by omega); subst h; rfl)
    | (have h := HR.out.2 (by omega); subst h; rfl)
theorem within35 (n l m : Int) (w : World) : Calls Tryd.prog 35 #[.int .i64 n, .int .i64 l, .int .i64 m] w fun e w' => e = .returned (.bool (decide (l ≤ n) && decide (n ≤ m))) ∧ w' = w := by
  by_cases h1 : l ≤ n
  · rw [decide_eq_true h1]
    go_enter Tryd.func35, Tryd.ntmps35
    go_wp2
    go_ret
    exact ⟨rfl, rfl⟩
  · rw [decide_eq_false h1]
    go_enter Tryd.func35, Tryd.ntmps35
    go_wp2
    go_ret
    exact ⟨rfl, rfl⟩
set_option maxRecDepth 100000 in
set_option maxHeartbeats 1000000 in
theorem check18 (f : Cfg) (w : World) : Calls Tryd.prog 18 #[cv f] w fun e w' => e = .returned (.int .i64 (if okC f then 0 else 1)) ∧ Below w.heap.size w w' := by
  obtain ⟨R, hR⟩ : ∃ R : Int, (if okC f then 0 else 1) = R := ⟨_, rfl⟩
  rw [hR]
  have hi := okC_iff f
  have HR : Aside0 (((1 ≤ f.a ∧ f.a ≤ 500) ∧ (1 ≤ f.b ∧ f.b ≤ 10) ∧ (0 ≤ f.c ∧ f.c ≤ 20) ∧ 1 ≤ f.d ∧ f.d ≤ 50 → 0 = R) ∧ (¬ ((1 ≤ f.a ∧ f.a ≤ 500) ∧ (1 ≤ f.b ∧ f.b ≤ 10) ∧ (0 ≤ f.c ∧ f.c ≤ 20) ∧ 1 ≤ f.d ∧ f.d ≤ 50) → 1 = R)) :=
    ⟨⟨fun h => by rw [← hR, if_pos (hi.2 h)], fun h => by rw [← hR, if_neg (fun h2 => h (hi.1 h2))]⟩⟩
  clear hR hi
  obtain ⟨on, a, b, c, d⟩ := f
  simp only [cv, cells]
  dsimp only at HR
  generalize on 0 = o0; generalize on 1 = o1; generalize on 2 = o2; generalize on 3 = o3; generalize on 4 = o4
  generalize on 5 = o5; generalize on 6 = o6; generalize on 7 = o7; generalize on 8 = o8; generalize on 9 = o9
  go_enter Tryd.func18, Tryd.ntmps18
  go_wp2_with (go_at_call 35; (with_reducible refine (within35 _ _ _ _).mono ?_); rintro e w' ⟨rfl, rfl⟩)
  all_goals go_ret
  all_goals refine ⟨?_, (Below.refl _ w).alloc (Nat.le_refl _) _⟩
  all_goals (try simp only [Bool.not_eq_true', Bool.not_eq_false', Bool.or_eq_true, Bool.or_eq_false_iff, decide_eq_true_eq, decide_eq_false_iff_not] at *)
  all_goals first
    | (have h := HR.out.1 (by omega); subst h; rfl)
    | (have h := HR.out.2 (by omega); subst h; rfl)
end Go.Proofs.YtcbmeklhmajglaaDoor
end
section
namespace Go.Proofs.YtcbmeklhmajglaaDoor
open Go.RowKit Go.Eng Go.CfgLaw
set_option linter.unusedVariables false
def isPlain : R → Bool
  | .ok (.agg [.bool false, .bool true, .bool true, .bool true, .bool true, .bool false, .bool true, .bool true, .bool true, .bool true, .int .i64 (.ofNat 80), .int .i64 (.ofNat 2), .int .i64 (.ofNat 2), .int .i64 (.ofNat 20)]) _ => true
  | _ => false
theorem plain11k : isPlain ((run Tryd.prog noExt 10000).f 11 [] s₀ .ok) = true := by kernel_rfl
theorem plain19k : isPlain ((run Tryd.prog noExt 10000).f 19 [] s₀ .ok) = true := by kernel_rfl
theorem follows : Tryd.prog.follows .mixedOrders = true := by kernel_rfl
theorem vb {ρ : Rho} {γ : Gam} {b : Bool} {v : Value} (h : VR ρ γ (.bool b) v) : v = .bool b := by
  cases h; rfl
theorem vi {ρ : Rho} {γ : Gam} {k : IntKind} {n : Int} {v : Value} (h : VR ρ γ (.int k n) v) : v = .int k n := by
  cases h; rfl
theorem vagg {ρ : Rho} {γ : Gam} {l : List IV} {v : Value} (h : VR ρ γ (.agg l) v) : ∃ vs, v = .agg vs.toArray ∧ VRs ρ γ l vs := by
  generalize hq : IV.agg l = q at h
  cases h <;> cases hq
  rename_i c hc
  exact ⟨c.toList, by simp, hc⟩
theorem vcons {ρ : Rho} {γ : Gam} {a : IV} {l : List IV} {vs : List Value} (h : VRs ρ γ (a :: l) vs) : ∃ v r, vs = v :: r ∧ VR ρ γ a v ∧ VRs ρ γ l r := by
  cases h with
  | cons _ b _ r ha h => exact ⟨b, r, rfl, ha, h⟩
theorem vnil {ρ : Rho} {γ : Gam} {vs : List Value} (h : VRs ρ γ [] vs) : vs = [] := by
  cases h; rfl
theorem plain_of {n : Nat} (h : isPlain ((run Tryd.prog noExt 10000).f n [] s₀ .ok) = true) (w : World) : Calls Tryd.prog n #[] w fun e w' => e = .returned (cv plain) ∧ Below w.heap.size w w' := by
  unfold isPlain at h
  split at h <;> (try (cases h; done))
  rename_i s1 hr
  refine (calls_of_run (γ := fun _ => .int .i64 0) follows noExt_ok hr .nil w).mono ?_
  rintro e w' ⟨v', ρ', rfl, g1, g2⟩
  refine ⟨?_, g1⟩
  obtain ⟨vs, rfl, h⟩ := vagg g2
  obtain ⟨v0, r, rfl, a0, h⟩ := vcons h
  obtain ⟨v1, r, rfl, a1, h⟩ := vcons h
  obtain ⟨v2, r, rfl, a2, h⟩ := vcons h
  obtain ⟨v3, r, rfl, a3, h⟩ := vcons h
  obtain ⟨v4, r, rfl, a4, h⟩ := vcons h
  obtain ⟨v5, r, rfl, a5, h⟩ := vcons h
  obtain ⟨v6, r, rfl, a6, h⟩ := vcons h
  obtain ⟨v7, r, rfl, a7, h⟩ := vcons h
  obtain ⟨v8, r, rfl, a8, h⟩ := vcons h
  obtain ⟨v9, r, rfl, a9, h⟩ := vcons h
  obtain ⟨v10, r, rfl, a10, h⟩ := vcons h
  obtain ⟨v11, r, rfl, a11, h⟩ := vcons h
  obtain ⟨v12, r, rfl, a12, h⟩ := vcons h
  obtain ⟨v13, r, rfl, a13, h⟩ := vcons h
  obtain rfl := vnil h
  rw [vb a0, vb a1, vb a2, vb a3, vb a4, vb a5, vb a6, vb a7, vb a8, vb a9, vi a10, vi a11, vi a12, vi a13]
  rfl
theorem plain11 (w : World) : Calls Tryd.prog 11 #[] w fun e w' => e = .returned (cv plain) ∧ Below w.heap.size w w' := plain_of plain11k w
theorem plain19 (w : World) : Calls Tryd.prog 19 #[] w fun e w' => e = .returned (cv plain) ∧ Below w.heap.size w w' := plain_of plain19k w
/-! ### The spec -/
def NM : List (List UInt8) := [[], [116, 114, 97, 105, 108], [108, 111, 110, 103], [115, 116, 101, 112], [101, 109, 112, 116, 121], [109, 97, 114, 107], [104, 97, 115, 104], [99, 111, 109, 109, 97], [116, 119, 105, 99, 101], [101, 110, 100]]
def NU : List (List UInt8) := [[119, 105, 100, 116, 104], [105, 110, 100, 101, 110, 116], [108, 105, 110, 101, 115], [100, 101, 112, 116, 104]]
def setN (f : Cfg) (k : Int) (n : Int) : Option Cfg := if k = 0 then some { f with a := n } else if k = 1 then some { f with b := n } else if k = 2 then some { f with c := n } else if k = 3 then some { f with d := n } else none
def lineF (f : Cfg) : List (List UInt8) → Option Cfg
  | [] => some f
  | [x, y] => if 0 < fi x NM 0 then (if y = [111, 110] ∨ y = [111, 102, 102] then some (setOn f (fi x NM 0).toNat (decide (y = [111, 110]))) else none)
    else match numF y with
      | none => none
      | some n => setN f (fi x NU 0) n
  | _ => none
def linesF (f : Cfg) : List (List UInt8) → Option Cfg
  | [] => some f
  | l :: r => match lineF f (wds l) with
    | none => none
    | some f' => linesF f' r
def parseF (s : List UInt8) : Cfg × Int := if 2000 < s.length then (zeroC, 4) else match linesF plain (lns s) with
  | none => (zeroC, 5)
  | some c => if okC c then (c, 0) else (zeroC, 1)
end Go.Proofs.YtcbmeklhmajglaaDoor
end
section
namespace Go.Proofs.YtcbmeklhmajglaaDoor
open Go.RowKit Go.CfgLaw Go.Proofs.YtcbmeklhmajglaaDoorW.PrintWords Go.Proofs.YtcbmeklhmajglaaDoorW.PrintLast Go.Proofs.YtcbmeklhmajglaaDoorW.PrintMore
set_option linter.unusedVariables false
theorem setCell_drewN (w : World) (n : Nat) (a : Addr) (v : Value) : (w.drewN n).setCell a v = (w.setCell a v).drewN n := by
  unfold World.setCell World.drewN
  split <;> rfl
theorem alloc_drewN (w : World) (n : Nat) (o : Obj) : (w.drewN n).alloc o = (w.alloc o).drewN n := rfl
attribute [local go_sem] setCell_drewN alloc_drewN
attribute [local simp] setCell_drewN alloc_drewN
def NMb : List ByteArray := NM.map ofL
def NUb : List ByteArray := NU.map ofL
theorem below_drewN {B : Nat} {a w : World} (h : Below B a w) : ∀ q, Below B a (w.drewN q)
  | 0 => h
  | q + 1 => (below_drewN h q).drew
theorem drawn_below {w w' : World} (h : Drawn0 w w') : Below w.heap.size w w' := by
  obtain ⟨n, rfl⟩ := h.out
  exact below_drewN (Below.refl _ w) n
theorem lt_of_cell {w : World} {p : Addr} {v : Value} (h : w.cell? p = some v) : p.block < w.heap.size := by
  unfold World.cell? at h
  split at h
  · rename_i hh
    exact (Array.getElem?_eq_some_iff.1 hh).1
  · cases h
theorem al_cell {w : World} (o : Obj) {p : Addr} {v : Value} (h : w.cell? p = some v) : (w.alloc o).cell? p = some v :=
  (World.cell?_of_block (Below.heap_alloc w o p.block (lt_of_cell h))).trans h
abbrev namesO : Obj := .cells #[.string ⟨#[]⟩, .string ⟨#[116, 114, 97, 105, 108]⟩, .string ⟨#[108, 111, 110, 103]⟩, .string ⟨#[115, 116, 101, 112]⟩, .string ⟨#[101, 109, 112, 116, 121]⟩, .string ⟨#[109, 97, 114, 107]⟩, .string ⟨#[104, 97, 115, 104]⟩, .string ⟨#[99, 111, 109, 109, 97]⟩, .string ⟨#[116, 119, 105, 99, 101]⟩, .string ⟨#[101, 110, 100]⟩] 9
abbrev numbersO : Obj := .cells #[.string ⟨#[119, 105, 100, 116, 104]⟩, .string ⟨#[105, 110, 100, 101, 110, 116]⟩, .string ⟨#[108, 105, 110, 101, 115]⟩, .string ⟨#[100, 101, 112, 116, 104]⟩] 9
theorem names27 (w : World) : Calls Tryd.prog 27 #[] w fun e w' => e = .returned (.slice (some ⟨w.heap.size, 0, none⟩) 10 10) ∧ w' = w.alloc namesO := by
  go_enter Tryd.func27, Tryd.ntmps27
  go_wp2
  go_ret
  exact ⟨rfl, rfl⟩
theorem numbers28 (w : World) : Calls Tryd.prog 28 #[] w fun e w' => e = .returned (.slice (some ⟨w.heap.size, 0, none⟩) 4 4) ∧ w' = w.alloc numbersO := by
  go_enter Tryd.func28, Tryd.ntmps28
  go_wp2
  go_ret
  exact ⟨rfl, rfl⟩
theorem row_of {w : World} {q : Nat} {l : List ByteArray} {cs : Array Value} (e : w.heap[q]? = some (.cells cs 9)) (hcs : cs.toList = l.map Value.string) (hl : l.length ≤ 1000000) : Kd.C Kd.string w (some ⟨q, 0, none⟩) l.length l := by
  refine ⟨rfl, by omega, fun _ => ⟨_, rfl, fun j p hp => ⟨[.string p], rfl, rfl, fun i u hu => ?_⟩⟩⟩
  match i, hu with
  | 0, hu =>
    simp at hu
    subst hu
    show w.cell? (Addr.add ⟨q, 0, none⟩ (j * 1 + 0)) = _
    have ha : Addr.add ⟨q, 0, none⟩ (j * 1 + 0) = ⟨q, j, none⟩ := by
      unfold Addr.add
      split <;> simp_all
    rw [ha]
    unfold World.cell?
    rw [e]
    show cs[j]? = _
    rw [← Array.getElem?_toList, hcs, List.getElem?_map, hp]
    rfl
theorem namesC (w : World) : Kd.C Kd.string (w.alloc namesO) (some ⟨w.heap.size, 0, none⟩) NMb.length NMb :=
  row_of (heap_alloc_new w namesO) rfl (by decide)
theorem numbersC (w : World) : Kd.C Kd.string (w.alloc numbersO) (some ⟨w.heap.size, 0, none⟩) NUb.length NUb :=
  row_of (heap_alloc_new w numbersO) rfl (by decide)
theorem NMb_back : NMb.map (·.data.toList) = NM := by
  unfold NMb
  rw [List.map_map]
  exact (List.map_congr_left (fun x _ => by simp [ofL])).trans (List.map_id _)
theorem NUb_back : NUb.map (·.data.toList) = NU := by
  unfold NUb
  rw [List.map_map]
  exact (List.map_congr_left (fun x _ => by simp [ofL])).trans (List.map_id _)
theorem which36m (x : ByteArray) (A : Option Addr) (c : Nat) (w : World) (hC : Kd.C Kd.string w A NMb.length NMb) (hc : 10 ≤ c) :
    Calls Tryd.prog 36 #[.string x, .slice A 10 c] w fun e w' => e = .returned (.int .i64 (fi x.data.toList NM 0)) ∧ Drawn0 w w' := by
  have h := which_f x NMb (by decide)
  rw [NMb_back] at h
  exact Pwhich.correctorref18_which.calls _ x A c NMb _ w hC hc h
theorem which36u (x : ByteArray) (A : Option Addr) (c : Nat) (w : World) (hC : Kd.C Kd.string w A NUb.length NUb) (hc : 4 ≤ c) :
    Calls Tryd.prog 36 #[.string x, .slice A 4 c] w fun e w' => e = .returned (.int .i64 (fi x.data.toList NU 0)) ∧ Drawn0 w w' := by
  have h := which_f x NUb (by decide)
  rw [NUb_back] at h
  exact Pwhich.correctorref18_which.calls _ x A c NUb _ w hC hc h
theorem which36n (x : ByteArray) (k : Int) (hk : fi x.data.toList NM 0 = k) (W : World) (q : Nat) (e : W.heap[q]? = some namesO) :
    Calls Tryd.prog 36 #[.string x, .slice (some ⟨q, 0, none⟩) 10 10] W fun e w' => e = .returned (.int .i64 k) ∧ Drawn0 W w' := by
  rw [← hk]
  exact which36m x _ 10 W (row_of e rfl (by decide)) (by decide)
theorem which36v (x : ByteArray) (k : Int) (hk : fi x.data.toList NU 0 = k) (W : World) (q : Nat) (e : W.heap[q]? = some numbersO) :
    Calls Tryd.prog 36 #[.string x, .slice (some ⟨q, 0, none⟩) 4 4] W fun e w' => e = .returned (.int .i64 k) ∧ Drawn0 W w' := by
  rw [← hk]
  exact which36u x _ 4 W (row_of e rfl (by decide)) (by decide)
theorem al2_new (w : World) (X Y Z : Obj) : (((w.alloc X).alloc Y).alloc Z).drew.heap[w.heap.size + 1 + 1]? = some Z := by
  have h := heap_alloc_new ((w.alloc X).alloc Y) Z
  have e : ((w.alloc X).alloc Y).heap.size = w.heap.size + 1 + 1 := by simp
  rw [e] at h
  exact h
def numV (x : ByteArray) : Int := match numF x.data.toList with | some n => (n : Int) | none => -1
theorem number37 (x : ByteArray) (w : World) : Calls Tryd.prog 37 #[.string x] w fun e w' => e = .returned (.int .i64 (numV x)) ∧ Drawn0 w w' :=
  Pnumber.correctorref18_number.calls 7 x _ w (number_f x)
theorem fi_bound (x : List UInt8) : ∀ (l : List (List UInt8)) (i : Nat), fi x l i = -1 ∨ ((i : Int) ≤ fi x l i ∧ fi x l i < (i + l.length : Nat))
  | [], i => .inl rfl
  | y :: r, i => by
    unfold fi
    split
    · right; simp only [List.length_cons]; omega
    · rcases fi_bound x r (i + 1) with h | h
      · exact .inl h
      · right; simp only [List.length_cons]; omega
set_option maxRecDepth 100000 in
set_option maxHeartbeats 2000000 in
theorem rl_other (f : Cfg) (A : Option Addr) (n c : Nat) (w : World) (hn : n < 1000000) (h0 : n ≠ 2) :
    Calls Tryd.prog 20 #[cv f, .slice A n c] w fun e w' => e = .returned (.tuple #[cv f, .bool (decide (n = 0))]) ∧ Below w.heap.size w w' := by
  obtain ⟨on, a, b, c, d⟩ := f
  simp only [cv, cells]
  generalize on 0 = o0; generalize on 1 = o1; generalize on 2 = o2; generalize on 3 = o3; generalize on 4 = o4
  generalize on 5 = o5; generalize on 6 = o6; generalize on 7 = o7; generalize on 8 = o8; generalize on 9 = o9
  have hni : ¬ (n : Int) = 2 := by omega
  go_enter Tryd.func20, Tryd.ntmps20
  go_wp2
  (try simp only [Exit.inBlock, Exit.then])
  refine bodyPost_ret (v := .tuple #[.agg #[.bool o0, .bool o1, .bool o2, .bool o3, .bool o4, .bool o5, .bool o6, .bool o7, .bool o8, .bool o9, .int .i64 a, .int .i64 b, .int .i64 c, .int .i64 d], .bool (decide (n = 0))]) ?_ rfl ⟨rfl, ?_⟩
  · rw [results_cell_tmp rfl]
    go_simp
    cases n with
    | zero => rfl
    | succ n => simp; omega
  · (repeat' (first | exact Below.refl _ _ | refine Below.drew ?_ | refine Below.alloc ?_ (by simp <;> omega) _ | refine below_drewN ?_ _))

end Go.Proofs.YtcbmeklhmajglaaDoor
end
