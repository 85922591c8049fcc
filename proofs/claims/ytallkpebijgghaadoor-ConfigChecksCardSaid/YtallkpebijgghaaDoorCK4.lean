/- A part of the proof: an interpreter of the program, shown right once, and the laws that it computes. -/
import Derived.Test.YtallkpebijgghaaDoorCK1
import Derived.Test.YtallkpebijgghaaDoorCK3a
import Derived.Test.YtallkpebijgghaaDoorCK3b
import Derived.Test.YtallkpebijgghaaDoorCK3c
import Derived.Test.YtallkpebijgghaaDoorCK3d
namespace Go.Proofs.YtallkpebijgghaaDoor
open Go.RowKit Go.Eng
set_option linter.unusedVariables false
theorem within11_neg (a n : Int) (w : World) (hn : 0 < n) (hn2 : n ≤ 1000) (ha : a.tmod n < 0) :
    Calls Tryd.prog 11 #[.int .i64 a, .int .i64 n] w fun e w' => e = .returned (.int .i64 (a.tmod n + n)) ∧ w' = w := by
  have h0 : n ≠ 0 := by omega
  have hw : IntKind.i64.wrap (a.tmod n + n) = a.tmod n + n := by
    have h1 : -n < a.tmod n := Int.lt_tmod_of_pos a hn
    unfold IntKind.wrap
    simp [IntKind.signed, IntKind.bits]
    omega
  go_enter Tryd.func11, Tryd.ntmps11
  go_wp2
  go_ret
  exact ⟨by first | rfl | (show Ending.returned (Value.int IntKind.i64 _) = _; rw [hw]), rfl⟩
theorem within11_pos (a n : Int) (w : World) (hn : 0 < n) (ha : ¬ a.tmod n < 0) :
    Calls Tryd.prog 11 #[.int .i64 a, .int .i64 n] w fun e w' => e = .returned (.int .i64 (a.tmod n)) ∧ w' = w := by
  have h0 : n ≠ 0 := by omega
  go_enter Tryd.func11, Tryd.ntmps11
  go_wp2
  go_ret
  exact ⟨rfl, rfl⟩
/-- What 'within' hands back. -/
theorem within11 (a : Int) (n : Nat) (hn : 0 < n) (hn2 : n ≤ 1000) : ∃ k : Nat, k < n ∧ ∀ w, Calls Tryd.prog 11 #[.int .i64 a, .int .i64 n] w fun e w' => e = .returned (.int .i64 k) ∧ w' = w := by
  have h0 : (0 : Int) < n := by omega
  have h1 : -(n : Int) < a.tmod n := Int.lt_tmod_of_pos a h0
  have h2 : a.tmod n < n := Int.tmod_lt_of_pos a h0
  by_cases ha : a.tmod n < 0
  · refine ⟨(a.tmod n + n).toNat, by omega, fun w => ?_⟩
    rw [show (((a.tmod n + n).toNat : Nat) : Int) = a.tmod n + n by omega]
    exact within11_neg a n w h0 (by omega) ha
  · refine ⟨(a.tmod n).toNat, by omega, fun w => ?_⟩
    rw [show (((a.tmod n).toNat : Nat) : Int) = a.tmod n by omega]
    exact within11_pos a n w h0 ha

theorem follows : Tryd.prog.follows .mixedOrders = true := by kernel_rfl
theorem known5 (w : World) : Calls Tryd.prog 5 #[] w fun e w' => e = .returned (.bool true) ∧ Below w.heap.size w w' :=
  law_of_run (γ := fun _ => .int .i64 0) (X := noExt) (m := 10000) (args := []) (args' := []) follows noExt_ok known5k .nil w
/-- What the symbols stand for. -/
def lk (a x y z u n1 n2 n3 n4 : Int) : Nat → Int
  | 0 => a | 1 => x | 2 => y | 3 => z | 4 => u | 5 => n3 | 300 => n1 | 301 => n2 | 303 => n4 | 400 => n1 + 1 | 401 => n2 + 1 | 403 => n4 + 1 | _ => 0
def gq (bs : Nat → Bool) (l : Nat → Int) : Gam := fun k => match Nat.ble 500 k with
  | true => .bool (bs (k - 500))
  | false => .int .i64 (l k)
theorem gq_one (bs : Nat → Bool) (l : Nat → Int) (k : Nat) : (gq bs l k).oneCell' = true := by
  unfold gq
  split <;> rfl
theorem gq_int (bs : Nat → Bool) (l : Nat → Int) (k : Nat) (hk : k < 500) : gq bs l k = .int .i64 (l k) := by
  unfold gq
  have : Nat.ble 500 k = false := by
    cases h : Nat.ble 500 k with
    | false => rfl
    | true => have := Nat.le_of_ble_eq_true h; omega
  rw [this]
theorem symQ {ρ : Rho} (bs : Nat → Bool) (l : Nat → Int) (k : Nat) (hs : 300 ≤ k → k < 400 → l (k + 100) = l k + 1 ∧ -1000000 < l k ∧ l k < 1000000) : VR ρ (gq bs l) (.sym k) (gq bs l k) :=
  .sym k (gq_one bs l k) (fun h => ⟨_, gq_int bs l k h⟩) (fun h h' => ⟨l k, gq_int bs l k (by omega), by rw [gq_int bs l (k + 100) (by omega), (hs h h').1], (hs h h').2⟩)
theorem symI {ρ : Rho} {γ : Gam} {k : Nat} {v : Value} (h : VR ρ γ (.sym k) v) : v = γ k := by
  cases h; rfl
theorem intI {ρ : Rho} {γ : Gam} {k : IntKind} {n : Int} {v : Value} (h : VR ρ γ (.int k n) v) : v = .int k n := by
  cases h; rfl
theorem inv2 {ρ : Rho} {γ : Gam} {i : Nat} {k : IntKind} {n : Int} {vs : List Value} (h : VRs ρ γ [.sym i, .int k n] vs) : vs = [γ i, .int k n] := by
  cases h with
  | cons _ a _ _ ha h => cases h with
    | cons _ b _ _ hb h => cases h; rw [symI ha, intI hb]
theorem inv3 {ρ : Rho} {γ : Gam} {i : Nat} {k k' : IntKind} {n m : Int} {vs : List Value} (h : VRs ρ γ [.sym i, .int k n, .int k' m] vs) : vs = [γ i, .int k n, .int k' m] := by
  cases h with
  | cons _ a _ _ ha h => cases h with
    | cons _ b _ _ hb h => cases h with
      | cons _ c _ _ hc h => cases h; rw [symI ha, intI hb, intI hc]
theorem syms_inv {ρ : Rho} {γ : Gam} : ∀ {l : List Nat} {vs : List Value}, VRs ρ γ (l.map IV.sym) vs → vs = l.map γ
  | [], _, h => by cases h; rfl
  | i :: l, _, h => by
    cases h with
    | cons _ a _ _ ha h => rw [symI ha, syms_inv h]; rfl
theorem invA {ρ : Rho} {γ : Gam} {l : List Nat} {vs : List Value} (h : VRs ρ γ [.agg (l.map IV.sym)] vs) : vs = [.agg (l.map γ).toArray] := by
  cases h with
  | cons _ a _ _ ha h =>
    cases h
    generalize hq : IV.agg (l.map IV.sym) = q at ha
    cases ha <;> cases hq
    rename_i c hc
    rw [← syms_inv hc]
theorem bool_q {γ : Gam} {ρ : Rho} {f : Nat} {args : Array Value} {b b' : Bool} {w : World} (hb : b' = b) (h : Calls Tryd.prog f args w fun e w' => e = .returned (.bool b') ∧ w' = w) :
    Calls Tryd.prog f args w fun e w' => ∃ v', e = .returned v' ∧ Below w.heap.size w w' ∧ VR ρ γ (.bool b) v' := by
  subst hb
  refine h.mono ?_
  rintro e w' ⟨rfl, rfl⟩
  exact ⟨_, rfl, Below.refl _ _, .bool _⟩
theorem int_q {γ : Gam} {ρ : Rho} {f : Nat} {args : Array Value} {n m : Int} {w : World} (hb : n = m) (h : Calls Tryd.prog f args w fun e w' => e = .returned (.int .i64 n) ∧ Below w.heap.size w w') :
    Calls Tryd.prog f args w fun e w' => ∃ v', e = .returned v' ∧ Below w.heap.size w w' ∧ VR ρ γ (.int .i64 m) v' := by
  subst hb
  refine h.mono ?_
  rintro e w' ⟨rfl, hB⟩
  exact ⟨_, rfl, hB, .int _ _⟩
theorem sym_q {ρ : Rho} {bs : Nat → Bool} {l : Nat → Int} {k : Nat} {f : Nat} {args : Array Value} {n : Int} {w : World} (hk : k < 500) (hb : n = l k) (hs : 300 ≤ k → k < 400 → l (k + 100) = l k + 1 ∧ -1000000 < l k ∧ l k < 1000000)
    (h : Calls Tryd.prog f args w fun e w' => e = .returned (.int .i64 n) ∧ w' = w) :
    Calls Tryd.prog f args w fun e w' => ∃ v', e = .returned v' ∧ Below w.heap.size w w' ∧ VR ρ (gq bs l) (.sym k) v' := by
  subst hb
  refine h.mono ?_
  rintro e w' ⟨rfl, rfl⟩
  exact ⟨_, rfl, Below.refl _ _, by rw [← gq_int bs l k hk]; exact symQ bs l k hs⟩
/-- How many of a config's numbers are within their bounds, ahead of the first that is not. -/
def good4 (x y z u : Int) : Nat := if ¬ (1 ≤ x ∧ x ≤ 500) then 0 else if ¬ (1 ≤ y ∧ y ≤ 10) then 1 else if ¬ (0 ≤ z ∧ z ≤ 20) then 2 else if ¬ (1 ≤ u ∧ u ≤ 50) then 3 else 4
theorem good4_row {i p : Nat} {v : IV} (h : upTo i p = some v) : (i < p ∧ v = .bool true) ∨ (i = p ∧ v = .bool false) := by
  unfold upTo at h
  cases h1 : Nat.blt i p with
  | true => rw [h1] at h; cases h; exact .inl ⟨by simpa [Nat.blt_eq] using h1, rfl⟩
  | false =>
    rw [h1] at h
    simp only at h
    cases h2 : Nat.beq i p with
    | true => rw [h2] at h; cases h; exact .inr ⟨Nat.eq_of_beq_eq_true h2, rfl⟩
    | false => rw [h2] at h; cases h
theorem ref7 (b0 b1 b2 b3 b4 b5 b6 b7 b8 b9 : Bool) (x y z u : Int) (w : World) : Calls Tryd.prog 7 #[cfgV b0 b1 b2 b3 b4 b5 b6 b7 b8 b9 x y z u] w fun e w' => e = .returned (.int .i64 (.ofNat (match Nat.beq (good4 x y z u) 4 with | true => 0 | false => 1))) ∧ Below w.heap.size w w' := by
  unfold good4
  by_cases h1 : 1 ≤ x ∧ x ≤ 500
  · rw [if_neg (fun h => h h1)]
    by_cases h2 : 1 ≤ y ∧ y ≤ 10
    · rw [if_neg (fun h => h h2)]
      by_cases h3 : 0 ≤ z ∧ z ≤ 20
      · rw [if_neg (fun h => h h3)]
        by_cases h4 : 1 ≤ u ∧ u ≤ 50
        · rw [if_neg (fun h => h h4)]; exact ref7e b0 b1 b2 b3 b4 b5 b6 b7 b8 b9 x y z u w h1 h2 h3 h4
        · rw [if_pos h4]; exact ref7d b0 b1 b2 b3 b4 b5 b6 b7 b8 b9 x y z u w h1 h2 h3 h4
      · rw [if_pos h3]; exact ref7c b0 b1 b2 b3 b4 b5 b6 b7 b8 b9 x y z u w h1 h2 h3
    · rw [if_pos h2]; exact ref7b b0 b1 b2 b3 b4 b5 b6 b7 b8 b9 x y z u w h1 h2
  · rw [if_pos h1]; exact ref7a b0 b1 b2 b3 b4 b5 b6 b7 b8 b9 x y z u w h1
theorem checks_ext (bs : Nat → Bool) (a x y z u : Int) (k n1 n2 n3 n4 : Nat) (h1 : n1 < 500) (h2 : n2 < 10) (h3 : n3 < 21) (h4 : n4 < 50)
    (ck : ∀ w, Calls Tryd.prog 11 #[.int .i64 a, .int .i64 8] w fun e w' => e = .returned (.int .i64 k) ∧ w' = w)
    (c1 : ∀ w, Calls Tryd.prog 11 #[.int .i64 x, .int .i64 500] w fun e w' => e = .returned (.int .i64 n1) ∧ w' = w)
    (c2 : ∀ w, Calls Tryd.prog 11 #[.int .i64 y, .int .i64 10] w fun e w' => e = .returned (.int .i64 n2) ∧ w' = w)
    (c3 : ∀ w, Calls Tryd.prog 11 #[.int .i64 z, .int .i64 21] w fun e w' => e = .returned (.int .i64 n3) ∧ w' = w)
    (c4 : ∀ w, Calls Tryd.prog 11 #[.int .i64 u, .int .i64 50] w fun e w' => e = .returned (.int .i64 n4) ∧ w' = w) :
    ExtOk Tryd.prog (gq bs (lk a x y z u n1 n2 n3 n4)) (memo (rowsQ (good4 x y z u) k)) := by
  have hp0 : 0 < good4 x y z u → 1 ≤ x ∧ x ≤ 500 := by unfold good4; split <;> (try split) <;> (try split) <;> (try split) <;> omega
  have hp0' : 0 = good4 x y z u → ¬ (1 ≤ x ∧ x ≤ 500) := by unfold good4; split <;> (try split) <;> (try split) <;> (try split) <;> omega
  have hp1 : 1 < good4 x y z u → 1 ≤ y ∧ y ≤ 10 := by unfold good4; split <;> (try split) <;> (try split) <;> (try split) <;> omega
  have hp1' : 1 = good4 x y z u → ¬ (1 ≤ y ∧ y ≤ 10) := by unfold good4; split <;> (try split) <;> (try split) <;> (try split) <;> omega
  have hp2 : 2 < good4 x y z u → 0 ≤ z ∧ z ≤ 20 := by unfold good4; split <;> (try split) <;> (try split) <;> (try split) <;> omega
  have hp2' : 2 = good4 x y z u → ¬ (0 ≤ z ∧ z ≤ 20) := by unfold good4; split <;> (try split) <;> (try split) <;> (try split) <;> omega
  have hp3 : 3 < good4 x y z u → 1 ≤ u ∧ u ≤ 50 := by unfold good4; split <;> (try split) <;> (try split) <;> (try split) <;> omega
  have hp3' : 3 = good4 x y z u → ¬ (1 ≤ u ∧ u ≤ 50) := by unfold good4; split <;> (try split) <;> (try split) <;> (try split) <;> omega
  refine memo_ok fun f args v h ρ args' hv w => ?_
  unfold rowsQ at h
  split at h <;> (try (cases h; done))
  · cases h; cases hv
    refine (known5 w).mono ?_
    rintro e w' ⟨rfl, hb⟩
    exact ⟨_, rfl, hb, .bool true⟩
  · cases h; rw [inv2 hv]
    refine (ck w).mono ?_
    rintro e w' ⟨rfl, rfl⟩
    exact ⟨_, rfl, Below.refl _ _, .int _ _⟩
  · cases h; rw [inv2 hv]; exact sym_q (by omega) rfl (fun _ _ => ⟨rfl, by show -1000000 < (n1 : Int); omega, by show (n1 : Int) < 1000000; omega⟩) (c1 w)
  · cases h; rw [inv2 hv]; exact sym_q (by omega) rfl (fun _ _ => ⟨rfl, by show -1000000 < (n2 : Int); omega, by show (n2 : Int) < 1000000; omega⟩) (c2 w)
  · cases h; rw [inv2 hv]; exact sym_q (by omega) rfl (fun h _ => by omega) (c3 w)
  · cases h; rw [inv2 hv]; exact sym_q (by omega) rfl (fun _ _ => ⟨rfl, by show -1000000 < (n4 : Int); omega, by show (n4 : Int) < 1000000; omega⟩) (c4 w)
  · rw [inv3 hv]
    rcases good4_row h with ⟨q, rfl⟩ | ⟨q, rfl⟩
    · exact bool_q (by have := hp0 q; rw [Bool.eq_iff_iff]; simp only [Bool.and_eq_true, decide_eq_true_eq, iff_true]; exact this) (in13 x 1 500 w)
    · exact bool_q (by have := hp0' q; rw [Bool.and_eq_false_iff]; simp only [decide_eq_false_iff_not]; omega) (in13 x 1 500 w)
  · rw [inv3 hv]
    rcases good4_row h with ⟨q, rfl⟩ | ⟨q, rfl⟩
    · exact bool_q (by have := hp1 q; rw [Bool.eq_iff_iff]; simp only [Bool.and_eq_true, decide_eq_true_eq, iff_true]; exact this) (in13 y 1 10 w)
    · exact bool_q (by have := hp1' q; rw [Bool.and_eq_false_iff]; simp only [decide_eq_false_iff_not]; omega) (in13 y 1 10 w)
  · rw [inv3 hv]
    rcases good4_row h with ⟨q, rfl⟩ | ⟨q, rfl⟩
    · exact bool_q (by have := hp2 q; rw [Bool.eq_iff_iff]; simp only [Bool.and_eq_true, decide_eq_true_eq, iff_true]; exact this) (in13 z 0 20 w)
    · exact bool_q (by have := hp2' q; rw [Bool.and_eq_false_iff]; simp only [decide_eq_false_iff_not]; omega) (in13 z 0 20 w)
  · rw [inv3 hv]
    rcases good4_row h with ⟨q, rfl⟩ | ⟨q, rfl⟩
    · exact bool_q (by have := hp3 q; rw [Bool.eq_iff_iff]; simp only [Bool.and_eq_true, decide_eq_true_eq, iff_true]; exact this) (in13 u 1 50 w)
    · exact bool_q (by have := hp3' q; rw [Bool.and_eq_false_iff]; simp only [decide_eq_false_iff_not]; omega) (in13 u 1 50 w)
  · cases h; rw [inv3 hv]
    exact bool_q (by rw [Bool.eq_iff_iff]; simp only [Bool.and_eq_true, decide_eq_true_eq, iff_true]; omega) (in13 ((n1 : Int) + 1) 1 500 w)
  · cases h; rw [inv3 hv]
    exact bool_q (by rw [Bool.eq_iff_iff]; simp only [Bool.and_eq_true, decide_eq_true_eq, iff_true]; omega) (in13 ((n2 : Int) + 1) 1 10 w)
  · cases h; rw [inv3 hv]
    exact bool_q (by rw [Bool.eq_iff_iff]; simp only [Bool.and_eq_true, decide_eq_true_eq, iff_true]; omega) (in13 (n3 : Int) 0 20 w)
  · cases h; rw [inv3 hv]
    exact bool_q (by rw [Bool.eq_iff_iff]; simp only [Bool.and_eq_true, decide_eq_true_eq, iff_true]; omega) (in13 ((n4 : Int) + 1) 1 50 w)
  · cases h; rw [invA (l := [500, 501, 502, 503, 504, 505, 506, 507, 508, 509, 1, 2, 3, 4]) hv]
    exact int_q rfl (ref7 (bs 0) (bs 1) (bs 2) (bs 3) (bs 4) (bs 5) (bs 6) (bs 7) (bs 8) (bs 9) x y z u w)
theorem checks_walk (bs : Nat → Bool) (x y z u a : Int) (above : Bool) (w : World) : Calls Tryd.prog 3 #[cfgV (bs 0) (bs 1) (bs 2) (bs 3) (bs 4) (bs 5) (bs 6) (bs 7) (bs 8) (bs 9) x y z u, .int .i64 a, .bool above] w fun e w' => e = .returned (.bool true) ∧ Below w.heap.size w w' := by
  obtain ⟨k, hk, ck⟩ := within11 a 8 (by decide) (by decide)
  obtain ⟨n1, h1, c1⟩ := within11 x 500 (by decide) (by decide)
  obtain ⟨n2, h2, c2⟩ := within11 y 10 (by decide) (by decide)
  obtain ⟨n3, h3, c3⟩ := within11 z 21 (by decide) (by decide)
  obtain ⟨n4, h4, c4⟩ := within11 u 50 (by decide) (by decide)
  have hX := checks_ext bs a x y z u k n1 n2 n3 n4 h1 h2 h3 h4 ck c1 c2 c3 c4
  have hc : VR (fun _ => none) (gq bs (lk a x y z u n1 n2 n3 n4)) cfgI (cfgV (bs 0) (bs 1) (bs 2) (bs 3) (bs 4) (bs 5) (bs 6) (bs 7) (bs 8) (bs 9) x y z u) := by
    refine .agg _ #[.bool (bs 0), .bool (bs 1), .bool (bs 2), .bool (bs 3), .bool (bs 4), .bool (bs 5), .bool (bs 6), .bool (bs 7), .bool (bs 8), .bool (bs 9), .int .i64 x, .int .i64 y, .int .i64 z, .int .i64 u] ?_
    have s := fun k (hk : k < 300 ∨ 400 ≤ k) => symQ (ρ := fun _ => none) bs (lk a x y z u n1 n2 n3 n4) k (fun h h' => by omega)
    exact .cons _ _ _ _ (s 500 (by omega)) (.cons _ _ _ _ (s 501 (by omega)) (.cons _ _ _ _ (s 502 (by omega)) (.cons _ _ _ _ (s 503 (by omega)) (.cons _ _ _ _ (s 504 (by omega)) (.cons _ _ _ _ (s 505 (by omega)) (.cons _ _ _ _ (s 506 (by omega)) (.cons _ _ _ _ (s 507 (by omega)) (.cons _ _ _ _ (s 508 (by omega)) (.cons _ _ _ _ (s 509 (by omega))
      (.cons _ _ _ _ (s 1 (by omega)) (.cons _ _ _ _ (s 2 (by omega)) (.cons _ _ _ _ (s 3 (by omega)) (.cons _ _ _ _ (s 4 (by omega)) .nil)))))))))))))
  have go : isTrue ((run Tryd.prog (memo (rowsQ (good4 x y z u) k)) 10000).f 3 [cfgI, .sym 0, .bool above] s₀ .ok) = true → Calls Tryd.prog 3 #[cfgV (bs 0) (bs 1) (bs 2) (bs 3) (bs 4) (bs 5) (bs 6) (bs 7) (bs 8) (bs 9) x y z u, .int .i64 a, .bool above] w fun e w' => e = .returned (.bool true) ∧ Below w.heap.size w w' :=
    fun h => law_of_run (args' := [cfgV (bs 0) (bs 1) (bs 2) (bs 3) (bs 4) (bs 5) (bs 6) (bs 7) (bs 8) (bs 9) x y z u, .int .i64 a, .bool above]) follows hX h (.cons _ _ _ _ hc (.cons _ _ _ _ (symQ bs _ 0 (fun h => by omega)) (.cons _ _ _ _ (.bool above) .nil))) w
  have hp : good4 x y z u < 5 := by unfold good4; split <;> (try split) <;> (try split) <;> (try split) <;> omega
  generalize good4 x y z u = p at go hp
  clear hX hc
  have hps : p = 0 ∨ p = 1 ∨ p = 2 ∨ p = 3 ∨ p = 4 := by omega
  have hks : k = 0 ∨ k = 1 ∨ k = 2 ∨ k = 3 ∨ k = 4 ∨ k = 5 ∨ k = 6 ∨ k = 7 := by omega
  rcases hps with rfl | rfl | rfl | rfl | rfl <;> rcases hks with rfl | rfl | rfl | rfl | rfl | rfl | rfl | rfl <;> cases above
  · exact go chk_0_0_false
  · exact go chk_0_0_true
  · exact go chk_0_1_false
  · exact go chk_0_1_true
  · exact go chk_0_2_false
  · exact go chk_0_2_true
  · exact go chk_0_3_false
  · exact go chk_0_3_true
  · exact go chk_0_4_false
  · exact go chk_0_4_true
  · exact go chk_0_5_false
  · exact go chk_0_5_true
  · exact go chk_0_6_false
  · exact go chk_0_6_true
  · exact go chk_0_7_false
  · exact go chk_0_7_true
  · exact go chk_1_0_false
  · exact go chk_1_0_true
  · exact go chk_1_1_false
  · exact go chk_1_1_true
  · exact go chk_1_2_false
  · exact go chk_1_2_true
  · exact go chk_1_3_false
  · exact go chk_1_3_true
  · exact go chk_1_4_false
  · exact go chk_1_4_true
  · exact go chk_1_5_false
  · exact go chk_1_5_true
  · exact go chk_1_6_false
  · exact go chk_1_6_true
  · exact go chk_1_7_false
  · exact go chk_1_7_true
  · exact go chk_2_0_false
  · exact go chk_2_0_true
  · exact go chk_2_1_false
  · exact go chk_2_1_true
  · exact go chk_2_2_false
  · exact go chk_2_2_true
  · exact go chk_2_3_false
  · exact go chk_2_3_true
  · exact go chk_2_4_false
  · exact go chk_2_4_true
  · exact go chk_2_5_false
  · exact go chk_2_5_true
  · exact go chk_2_6_false
  · exact go chk_2_6_true
  · exact go chk_2_7_false
  · exact go chk_2_7_true
  · exact go chk_3_0_false
  · exact go chk_3_0_true
  · exact go chk_3_1_false
  · exact go chk_3_1_true
  · exact go chk_3_2_false
  · exact go chk_3_2_true
  · exact go chk_3_3_false
  · exact go chk_3_3_true
  · exact go chk_3_4_false
  · exact go chk_3_4_true
  · exact go chk_3_5_false
  · exact go chk_3_5_true
  · exact go chk_3_6_false
  · exact go chk_3_6_true
  · exact go chk_3_7_false
  · exact go chk_3_7_true
  · exact go chk_4_0_false
  · exact go chk_4_0_true
  · exact go chk_4_1_false
  · exact go chk_4_1_true
  · exact go chk_4_2_false
  · exact go chk_4_2_true
  · exact go chk_4_3_false
  · exact go chk_4_3_true
  · exact go chk_4_4_false
  · exact go chk_4_4_true
  · exact go chk_4_5_false
  · exact go chk_4_5_true
  · exact go chk_4_6_false
  · exact go chk_4_6_true
  · exact go chk_4_7_false
  · exact go chk_4_7_true
end Go.Proofs.YtallkpebijgghaaDoor
