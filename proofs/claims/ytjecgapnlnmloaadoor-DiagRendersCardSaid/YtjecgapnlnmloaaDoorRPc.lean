/- A part of the proof: an interpreter of the program, shown right once, and the laws that it computes. -/
import Derived.Test.YtjecgapnlnmloaaDoorRPb
namespace Go.Proofs.YtjecgapnlnmloaaDoor.PRender
open Go.RowKit Go.Proofs.YtjecgapnlnmloaaDoorW.PrintWords Go.Proofs.YtjecgapnlnmloaaDoorW.PrintLast Go.Proofs.YtjecgapnlnmloaaDoorW.PrintMore
set_option linter.unusedVariables false
/-- The sign with which bytes begin: its number and how many bytes it has. -/
def sg (xs : List Int) : Nat × Nat := Utf8.decode (strOfNums xs) 0
theorem sg_n (xs : List Int) (hb : Byt xs) (hne : xs ≠ []) : 1 ≤ (sg xs).2 ∧ (sg xs).2 ≤ 4 ∧ (sg xs).2 ≤ xs.length := by
  have hl : 0 < xs.length := List.length_pos_iff.2 hne
  unfold sg
  rw [Lib.decode_at, strOf_size, Nat.sub_zero]
  unfold Lib.decodeN
  repeat' split
  all_goals (refine ⟨by simp, by simp, ?_⟩; simp only; omega)
/-- How many signs there are. -/
def rcF : Nat → List Int → Nat
  | 0, _ => 0
  | f + 1, xs => if xs = [] then 0 else rcF f (xs.drop (sg xs).2) + 1
def rc (xs : List Int) : Nat := rcF xs.length xs
theorem rcF_more (f g : Nat) : ∀ xs : List Int, Byt xs → xs.length ≤ f → xs.length ≤ g → rcF f xs = rcF g xs := by
  induction f generalizing g with
  | zero =>
    intro xs _ h _
    obtain rfl : xs = [] := List.length_eq_zero_iff.1 (by omega)
    cases g <;> simp [rcF]
  | succ f ih =>
    intro xs hb h1 h2
    by_cases hn : xs = []
    · subst hn
      cases g <;> simp [rcF]
    · have := sg_n xs hb hn
      have hl : 0 < xs.length := List.length_pos_iff.2 hn
      obtain ⟨g, rfl⟩ : ∃ m, g = m + 1 := ⟨g - 1, by omega⟩
      simp only [rcF, if_neg hn]
      rw [ih g _ (hb.drop _) (by rw [List.length_drop]; omega) (by rw [List.length_drop]; omega)]
theorem rc_nil : rc [] = 0 := rfl
theorem rc_step {xs : List Int} (hb : Byt xs) (hne : xs ≠ []) : rc xs = rc (xs.drop (sg xs).2) + 1 := by
  have h := sg_n xs hb hne
  have hl : 0 < xs.length := List.length_pos_iff.2 hne
  unfold rc
  obtain ⟨m, hm⟩ : ∃ m, xs.length = m + 1 := ⟨xs.length - 1, by omega⟩
  rw [hm]
  simp only [rcF, if_neg hne]
  rw [rcF_more m _ _ (hb.drop _) (by rw [List.length_drop]; omega) (Nat.le_refl _)]
theorem rc_le (n : Nat) : ∀ xs : List Int, Byt xs → xs.length ≤ n → rc xs ≤ n := by
  induction n with
  | zero =>
    intro xs _ h
    obtain rfl : xs = [] := List.length_eq_zero_iff.1 (by omega)
    exact Nat.le_refl _
  | succ n ih =>
    intro xs hb h
    by_cases hn : xs = []
    · subst hn; exact Nat.zero_le _
    · have := sg_n xs hb hn
      rw [rc_step hb hn]
      have := ih (xs.drop (sg xs).2) (hb.drop _) (by rw [List.length_drop]; omega)
      omega
theorem nxd_snd (d : Nat × Nat) : (nxd d).2 = (d.2 : Int) := by
  unfold nxd
  split
  · rename_i h; simp [h.2]
  · rfl
theorem count_l (d : Nat) : ∀ (k : Nat) (xs : List Int) (c at_ : Nat), Byt xs → c + (xs.length - at_) < 1000000 → xs.length < 1000000 → at_ ≤ xs.length → xs.length - at_ ≤ d → d + 9 ≤ k →
    correctorref1_Count.l0 k xs (c : Int) (at_ : Int) = some ((c + rc (xs.drop at_) : Nat) : Int) := by
  induction d with
  | zero =>
    intro k xs c at_ hb hc hl ha hd hk
    obtain ⟨k, rfl⟩ : ∃ m, k = m + 1 := ⟨k - 1, by omega⟩
    simp only [correctorref1_Count.l0]
    rw [if_neg (by omega), List.drop_of_length_le (by omega), rc_nil, Nat.add_zero]
  | succ d ih =>
    intro k xs c at_ hb hc hl ha hd hk
    obtain ⟨k, rfl⟩ : ∃ m, k = m + 1 := ⟨k - 1, by omega⟩
    simp only [correctorref1_Count.l0]
    by_cases he : at_ = xs.length
    · rw [if_neg (by omega), List.drop_of_length_le (by omega), rc_nil, Nat.add_zero]
    · have hne : xs.drop at_ ≠ [] := fun h => by have := congrArg List.length h; rw [List.length_drop, List.length_nil] at this; omega
      have hs := sg_n (xs.drop at_) (hb.drop _) hne
      rw [List.length_drop] at hs
      rw [if_pos (by omega), if_pos (by omega), if_pos (by omega), Int.toNat_natCast, next_f k (by omega) _ (hb.drop _) hne, Option.bind_some]
      rw [nxd_snd]
      rw [show Utf8.decode (strOfNums (xs.drop at_)) 0 = sg (xs.drop at_) from rfl]
      rw [show wrap64 ((c : Int) + 1) = ((c + 1 : Nat) : Int) by unfold wrap64; omega, show wrap64 ((at_ : Int) + ((sg (xs.drop at_)).2 : Int)) = ((at_ + (sg (xs.drop at_)).2 : Nat) : Int) by unfold wrap64; omega]
      rw [ih k xs (c + 1) _ hb (by omega) hl (by omega) (by omega) (by omega), rc_step (hb.drop _) hne, List.drop_drop]
      congr 2
      omega
theorem count_f (k : Nat) (xs : List Int) (hb : Byt xs) (hl : xs.length < 1000000) (hk : xs.length + 9 ≤ k) : correctorref1_Count.f k xs = some (rc xs : Int) := by
  have h := count_l xs.length k xs 0 0 hb (by omega) hl (by omega) (by omega) hk
  rw [Nat.zero_add, List.drop_zero] at h
  exact h
/-! ### Where lines begin -/
/-- Does a break end behind a place? -/
def brk (xs : List Int) (i : Nat) : Bool := decide (i < xs.length) && (decide (rd xs i = 10) || (decide (rd xs i = 13) && !(decide (i + 1 < xs.length) && decide (rd xs (i + 1 : Nat) = 10))))
/-- Where lines begin, up to a place. -/
def st (xs : List Int) (m : Nat) : List Int := 0 :: ((List.range m).filter (brk xs)).map fun i => ((i + 1 : Nat) : Int)
theorem st_succ (xs : List Int) (m : Nat) : st xs (m + 1) = if brk xs m then st xs m ++ [((m + 1 : Nat) : Int)] else st xs m := by
  unfold st
  rw [List.range_succ, List.filter_append, List.map_append]
  by_cases h : brk xs m
  · simp [h]
  · simp [h]
theorem st_more (xs : List Int) (m : Nat) : ∀ n, (∀ i, m ≤ i → i < m + n → brk xs i = false) → st xs (m + n) = st xs m
  | 0, _ => rfl
  | n + 1, h => by rw [← Nat.add_assoc, st_succ, h (m + n) (by omega) (by omega), st_more xs m n (fun i h1 h2 => h i h1 (by omega))]; rfl
theorem st_len (xs : List Int) (m : Nat) : (st xs m).length ≤ m + 1 := by
  unfold st
  rw [List.length_cons, List.length_map]
  have := List.length_filter_le (brk xs) (List.range m)
  rw [List.length_range] at this
  omega
theorem break_f (k : Nat) (hk : 3 ≤ k) (xs : List Int) (i : Nat) (hi : i < xs.length) (hl : xs.length < 1000000) :
    correctorref2_Break.f k xs (i : Int) = some (if brk xs i then 1 else if rd xs i = 13 ∧ i + 1 < xs.length ∧ rd xs (i + 1 : Nat) = 10 then 2 else 0) := by
  obtain ⟨k, rfl⟩ : ∃ m, k = m + 3 := ⟨k - 3, by omega⟩
  have e1 : wrap64 ((i : Int) + 1) = ((i + 1 : Nat) : Int) := by unfold wrap64; omega
  simp only [correctorref2_Break.f, e1]
  rw [if_neg (by omega), if_pos (by omega), if_pos (by omega)]
  unfold brk
  by_cases c13 : rd xs i = 13
  · rw [if_pos c13]
    by_cases c1 : i + 1 < xs.length
    · rw [if_pos (by omega), if_pos (by omega)]
      by_cases c10 : rd xs ((i : Int) + 1) = 10
      · simp [correctorref2_Break.j0, c13, c1, c10, hi]
      · simp [correctorref2_Break.j0, c13, c1, c10, hi]
    · rw [if_neg (by omega)]
      simp [correctorref2_Break.j0, c13, c1, hi]
  · rw [if_neg c13]
    by_cases c10 : rd xs i = 10
    · simp [correctorref2_Break.j0, c10, hi]
    · simp [correctorref2_Break.j0, c13, c10, hi]
theorem starts_l (d : Nat) : ∀ (k : Nat) (xs : List Int) (i : Nat), i ≤ xs.length → xs.length - i ≤ d → xs.length < 1000000 → d + 4 ≤ k →
    correctorref2_Starts.l0 k xs (st xs i) (i : Int) = some (st xs xs.length) := by
  induction d with
  | zero =>
    intro k xs i hi hd hl hk
    obtain ⟨k, rfl⟩ : ∃ m, k = m + 1 := ⟨k - 1, by omega⟩
    simp only [correctorref2_Starts.l0]
    rw [if_neg (by omega), show i = xs.length by omega]
  | succ d ih =>
    intro k xs i hi hd hl hk
    obtain ⟨k, rfl⟩ : ∃ m, k = m + 1 := ⟨k - 1, by omega⟩
    simp only [correctorref2_Starts.l0]
    by_cases he : i = xs.length
    · rw [if_neg (by omega), he]
    · have hlen := st_len xs i
      rw [if_pos (by omega), break_f k (by omega) xs i (by omega) hl, Option.bind_some]
      by_cases hb : brk xs i
      · rw [if_pos hb, if_pos (by omega), if_pos (by omega), show mx 1 1 = 1 from rfl, show wrap64 ((i : Int) + 1) = ((i + 1 : Nat) : Int) by unfold wrap64; omega]
        have := ih k xs (i + 1) (by omega) (by omega) hl (by omega)
        rw [st_succ, if_pos hb] at this
        exact this
      · rw [if_neg hb]
        by_cases h2 : rd xs i = 13 ∧ i + 1 < xs.length ∧ rd xs (i + 1 : Nat) = 10
        · rw [if_pos h2, if_pos (by omega), if_pos (by omega), show mx 2 1 = 2 from rfl, show wrap64 ((i : Int) + 2) = ((i + 1 + 1 : Nat) : Int) by unfold wrap64; omega]
          have := ih k xs (i + 1 + 1) (by omega) (by omega) hl (by omega)
          have h10 : brk xs (i + 1) = true := by unfold brk; rw [decide_eq_true h2.2.1, decide_eq_true h2.2.2]; rfl
          rw [st_succ, if_pos h10, st_succ, if_neg hb] at this
          exact this
        · rw [if_neg h2, if_neg (by omega), show mx 0 1 = 1 from rfl, show wrap64 ((i : Int) + 1) = ((i + 1 : Nat) : Int) by unfold wrap64; omega]
          have := ih k xs (i + 1) (by omega) (by omega) hl (by omega)
          rw [st_succ, if_neg hb] at this
          exact this
theorem starts_f (k : Nat) (xs : List Int) (hl : xs.length < 1000000) (hk : xs.length + 4 ≤ k) : correctorref2_Starts.f k xs = some (st xs xs.length) := by
  have h := starts_l xs.length k xs 0 (by omega) (by omega) hl hk
  exact h
/-! ### Lines and columns -/
theorem st_mem_le (xs : List Int) (m : Nat) : ∀ x ∈ st xs m, 0 ≤ x ∧ x ≤ m := by
  intro x hx
  unfold st at hx
  rcases List.mem_cons.1 hx with rfl | hx
  · exact ⟨by omega, by omega⟩
  · obtain ⟨i, hi, rfl⟩ := List.mem_map.1 hx
    have := List.mem_range.1 (List.mem_filter.1 hi).1
    omega
/-- The rest of the places behind one. -/
theorem st_parts (xs : List Int) (m : Nat) : ∀ n, ∃ R, st xs (m + n) = st xs m ++ R ∧ ∀ x ∈ R, (m : Int) < x
  | 0 => ⟨[], by simp, by simp⟩
  | n + 1 => by
    obtain ⟨R, hR, hg⟩ := st_parts xs m n
    rw [← Nat.add_assoc, st_succ, hR]
    split
    · refine ⟨R ++ [((m + n + 1 : Nat) : Int)], by simp, fun x hx => ?_⟩
      rcases List.mem_append.1 hx with hx | hx
      · exact hg x hx
      · rw [List.mem_singleton.1 hx]; omega
    · exact ⟨R, rfl, hg⟩
theorem st_ne (xs : List Int) (m : Nat) : st xs m ≠ [] := by unfold st; simp
/-- Where the line of a place begins. -/
def fromOf (xs : List Int) (m : Nat) : Nat := ((st xs m).getLast (st_ne xs m)).toNat
theorem fromOf_le (xs : List Int) (m : Nat) : fromOf xs m ≤ m := by
  have := st_mem_le xs m _ (List.getLast_mem (st_ne xs m))
  unfold fromOf
  omega
/-- A place's line and column. -/
def placeOf (xs : List Int) (a : Nat) : Nat × Nat := ((st xs a).length, 1 + rc ((xs.take a).drop (fromOf xs a)))
theorem rd_append_left (A R : List Int) (i : Nat) (h : i < A.length) : rd (A ++ R) (i : Int) = A[i] := by
  unfold rd
  rw [Int.toNat_natCast, List.getD_eq_getElem?_getD, List.getElem?_append_left h, List.getElem?_eq_getElem h]
  rfl
theorem rd_append_head (A R : List Int) (h : A.length < (A ++ R).length) : rd (A ++ R) (A.length : Int) ∈ R := by
  cases R with
  | nil => simp at h
  | cons r R =>
    unfold rd
    rw [Int.toNat_natCast]
    simp [List.getD]
theorem place_end (k : Nat) (xs : List Int) (a : Nat) (R : List Int) (hb : Byt xs) (ha : a ≤ xs.length) (hl : xs.length < 1000000) (hk : xs.length + 9 ≤ k) :
    (if 0 ≤ (wrap64 (((st xs a).length : Int) - 1)) then (if (wrap64 (((st xs a).length : Int) - 1)) < ((st xs a ++ R).length : Int) then (if 0 ≤ (rd (st xs a ++ R) (wrap64 (((st xs a).length : Int) - 1))) then (if (rd (st xs a ++ R) (wrap64 (((st xs a).length : Int) - 1))) ≤ (a : Int) then (if (a : Int) ≤ (xs.length : Int) then ((correctorref1_Count.f k ((xs.take (a : Int).toNat).drop ((rd (st xs a ++ R) (wrap64 (((st xs a).length : Int) - 1))) : Int).toNat)).bind fun t185 => (some (((st xs a).length : Int), wrap64 (1 + t185)))) else (none)) else (none)) else (none)) else (none)) else (none)) = some (((placeOf xs a).1 : Int), ((placeOf xs a).2 : Int)) := by
  have h0 : 0 < (st xs a).length := List.length_pos_iff.2 (st_ne xs a)
  have h1 := st_len xs a
  have e : wrap64 (((st xs a).length : Int) - 1) = (((st xs a).length - 1 : Nat) : Int) := by unfold wrap64; omega
  have hlast : (st xs a)[(st xs a).length - 1]'(by omega) = (st xs a).getLast (st_ne xs a) := by rw [List.getLast_eq_getElem]
  have hm := st_mem_le xs a _ (List.getLast_mem (st_ne xs a))
  rw [e, if_pos (by omega), if_pos (by rw [List.length_append]; omega), rd_append_left _ _ _ (by omega), hlast, if_pos hm.1, if_pos hm.2, if_pos (by omega), Int.toNat_natCast, show ((st xs a).getLast (st_ne xs a)).toNat = fromOf xs a from rfl]
  have hlen : ((xs.take a).drop (fromOf xs a)).length ≤ xs.length := by rw [List.length_drop, List.length_take]; omega
  rw [count_f k _ ((hb.take _).drop _) (by omega) (by omega), Option.bind_some]
  have hr := rc_le _ _ ((hb.take a).drop (fromOf xs a)) (Nat.le_refl _)
  rw [show wrap64 (1 + ((rc ((xs.take a).drop (fromOf xs a)) : Nat) : Int)) = ((1 + rc ((xs.take a).drop (fromOf xs a)) : Nat) : Int) by unfold wrap64; omega]
  rfl
theorem place_l (d : Nat) : ∀ (k : Nat) (xs : List Int) (a i : Nat) (R : List Int), Byt xs → a ≤ xs.length → xs.length < 1000000 → (∀ x ∈ R, (a : Int) < x) → i ≤ (st xs a).length → (st xs a).length - i ≤ d → d + xs.length + 20 ≤ k →
    correctorref2_Place.l0 k xs (a : Int) (st xs a ++ R) (i : Int) = some (((placeOf xs a).1 : Int), ((placeOf xs a).2 : Int)) := by
  induction d with
  | zero =>
    intro k xs a i R hb ha hl hR hi hd hk
    obtain ⟨k, rfl⟩ : ∃ m, k = m + 1 := ⟨k - 1, by omega⟩
    obtain rfl : i = (st xs a).length := by omega
    simp only [correctorref2_Place.l0]
    by_cases h : (st xs a).length < (st xs a ++ R).length
    · have := hR _ (rd_append_head _ _ h)
      rw [if_pos (by omega), if_pos (by omega), if_neg (by omega), place_end k xs a R hb ha hl (by omega)]
    · rw [if_neg (by omega), place_end k xs a R hb ha hl (by omega)]
  | succ d ih =>
    intro k xs a i R hb ha hl hR hi hd hk
    by_cases he : (st xs a).length - i ≤ d
    · exact ih k xs a i R hb ha hl hR hi he (by omega)
    · obtain ⟨k, rfl⟩ : ∃ m, k = m + 1 := ⟨k - 1, by omega⟩
      simp only [correctorref2_Place.l0]
      have hlen := st_len xs a
      have hm := st_mem_le xs a _ (List.getElem_mem (show i < (st xs a).length by omega))
      rw [if_pos (by rw [List.length_append]; omega), if_pos (by omega), rd_append_left _ _ _ (by omega), if_pos hm.2, show wrap64 ((i : Int) + 1) = ((i + 1 : Nat) : Int) by unfold wrap64; omega]
      exact ih k xs a (i + 1) R hb ha hl hR (by omega) (by omega) (by omega)
theorem place_f (k : Nat) (xs : List Int) (a : Nat) (hb : Byt xs) (ha : a ≤ xs.length) (hl : xs.length < 1000000) (hk : 2 * xs.length + 30 ≤ k) :
    correctorref2_Place.f k xs (a : Int) = some (((placeOf xs a).1 : Int), ((placeOf xs a).2 : Int)) := by
  obtain ⟨k, rfl⟩ : ∃ m, k = m + 1 := ⟨k - 1, by omega⟩
  simp only [correctorref2_Place.f]
  rw [if_neg (by omega), show decide ((a : Int) > (xs.length : Int)) = false from decide_eq_false (by omega)]
  simp only [correctorref2_Place.j0, Bool.false_eq_true, if_false]
  rw [starts_f k xs hl (by omega), Option.bind_some]
  obtain ⟨R, hR, hg⟩ := st_parts xs a (xs.length - a)
  rw [show a + (xs.length - a) = xs.length by omega] at hR
  rw [hR]
  have := st_len xs a
  exact place_l ((st xs a).length) k xs a 0 R hb ha hl hg (by omega) (by omega) (by omega)
theorem place_none (k : Nat) (xs : List Int) (a : Int) (h : a < 0 ∨ (xs.length : Int) < a) : correctorref2_Place.f (k + 1) xs a = some (0, 0) := by
  simp only [correctorref2_Place.f]
  rcases h with h | h
  · rw [if_pos h]
    simp [correctorref2_Place.j0]
  · rw [if_neg (by omega), show decide (a > (xs.length : Int)) = true from decide_eq_true (by omega)]
    simp [correctorref2_Place.j0]
end Go.Proofs.YtjecgapnlnmloaaDoor.PRender
