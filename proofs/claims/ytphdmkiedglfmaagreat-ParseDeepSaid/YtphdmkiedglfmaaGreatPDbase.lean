/- A part of the proof: an interpreter of the program, shown right once, and the laws that it computes. -/
import Derived.Test.YtphdmkiedglfmaaGreatPDm0
import Derived.Test.YtphdmkiedglfmaaGreatPDm1
import Derived.Test.YtphdmkiedglfmaaGreatPDm2
import Derived.WalkKit
import Derived.ProofKit
import Derived.Below
set_option linter.unusedVariables false
set_option linter.constructorNameAsVariable false
namespace Go.Proofs.YtphdmkiedglfmaaGreat
open Go.RowKit Go.Eng
theorem within5_neg (a n : Int) (w : World) (hn : 0 < n) (hn2 : n ≤ 1000) (ha : a.tmod n < 0) :
    Calls Tryz.prog 5 #[.int .i64 a, .int .i64 n] w fun e w' => e = .returned (.int .i64 (a.tmod n + n)) ∧ w' = w := by
  have h0 : n ≠ 0 := by omega
  have hw : IntKind.i64.wrap (a.tmod n + n) = a.tmod n + n := by
    have h1 : -n < a.tmod n := Int.lt_tmod_of_pos a hn
    unfold IntKind.wrap
    simp [IntKind.signed, IntKind.bits]
    omega
  go_enter Tryz.func5, Tryz.ntmps5
  go_wp2
  go_ret
  exact ⟨by first | rfl | (show Ending.returned (Value.int IntKind.i64 _) = _; rw [hw]), rfl⟩
theorem within5_pos (a n : Int) (w : World) (hn : 0 < n) (ha : ¬ a.tmod n < 0) :
    Calls Tryz.prog 5 #[.int .i64 a, .int .i64 n] w fun e w' => e = .returned (.int .i64 (a.tmod n)) ∧ w' = w := by
  have h0 : n ≠ 0 := by omega
  go_enter Tryz.func5, Tryz.ntmps5
  go_wp2
  go_ret
  exact ⟨rfl, rfl⟩
/-- What 'within' hands back. -/
theorem within5 (a : Int) (n : Nat) (hn : 0 < n) (hn2 : n ≤ 1000) : ∃ k : Nat, k < n ∧ ∀ w, Calls Tryz.prog 5 #[.int .i64 a, .int .i64 n] w fun e w' => e = .returned (.int .i64 k) ∧ w' = w := by
  have h0 : (0 : Int) < n := by omega
  have h1 : -(n : Int) < a.tmod n := Int.lt_tmod_of_pos a h0
  have h2 : a.tmod n < n := Int.tmod_lt_of_pos a h0
  by_cases ha : a.tmod n < 0
  · refine ⟨(a.tmod n + n).toNat, by omega, fun w => ?_⟩
    rw [show (((a.tmod n + n).toNat : Nat) : Int) = a.tmod n + n by omega]
    exact within5_neg a n w h0 (by omega) ha
  · refine ⟨(a.tmod n).toNat, by omega, fun w => ?_⟩
    rw [show (((a.tmod n).toNat : Nat) : Int) = a.tmod n by omega]
    exact within5_pos a n w h0 ha
/-- Of a small number: itself. -/
theorem within5_self (k : Nat) (hk : k < 30) (w : World) : Calls Tryz.prog 5 #[.int .i64 (k : Int), .int .i64 (30 : Nat)] w fun e w' => e = .returned (.int .i64 k) ∧ w' = w := by
  have e : Int.tmod (k : Int) (30 : Nat) = k := Int.tmod_eq_of_lt (by omega) (by omega)
  have := within5_pos (k : Int) (30 : Nat) w (by omega) (by rw [e]; omega)
  rwa [e] at this
theorem follows : Tryz.prog.follows .mixedOrders = true := by kernel_rfl
theorem known4 (w : World) : Calls Tryz.prog 4 #[] w fun e w' => e = .returned (.bool true) ∧ Below w.heap.size w w' :=
  law_of_run (γ := fun _ => .int .i64 0) (X := noExt) (m := 10000) (args := []) (args' := []) follows noExt_ok (by kernel_rfl) .nil w
/- the calls that are known -/
variable {γ : Gam}
theorem runG_ok {e : GRow} (h : runG e = true) : GOk Tryz.prog γ e := gOk_of follows noExt_ok h
def AllP (γ : Gam) : List PE → Prop
  | [] => True
  | e :: l => POk Tryz.prog γ e ∧ AllP γ l
theorem nthP_ok : ∀ {l : List PE} {i : Nat} {e : PE}, AllP γ l → nthP l i = some e → POk Tryz.prog γ e
  | [], _, _, _, h => by cases h
  | a :: l, 0, e, ho, h => by cases h; exact ho.1
  | a :: l, i + 1, e, ho, h => nthP_ok (l := l) ho.2 h
theorem chain_ok : AllP γ chain := ⟨⟨i0, r0, runG_ok chk0⟩, ⟨i1, r1, runG_ok chk1⟩, ⟨i2, r2, runG_ok chk2⟩, ⟨i3, r3, runG_ok chk3⟩, ⟨i4, r4, runG_ok chk4⟩, ⟨i5, r5, runG_ok chk5⟩, ⟨i6, r6, runG_ok chk6⟩, ⟨i7, r7, runG_ok chk7⟩, ⟨i8, r8, runG_ok chk8⟩, ⟨i9, r9, runG_ok chk9⟩, ⟨i10, r10, runG_ok chk10⟩, ⟨i11, r11, runG_ok chk11⟩, ⟨i12, r12, runG_ok chk12⟩, ⟨i13, r13, runG_ok chk13⟩, ⟨i14, r14, runG_ok chk14⟩, ⟨i15, r15, runG_ok chk15⟩, ⟨i16, r16, runG_ok chk16⟩, ⟨i17, r17, runG_ok chk17⟩, ⟨i18, r18, runG_ok chk18⟩, ⟨i19, r19, runG_ok chk19⟩, ⟨i20, r20, runG_ok chk20⟩, ⟨i21, r21, runG_ok chk21⟩, ⟨i22, r22, runG_ok chk22⟩, ⟨i23, r23, runG_ok chk23⟩, ⟨i24, r24, runG_ok chk24⟩, ⟨i25, r25, runG_ok chk25⟩, ⟨i26, r26, runG_ok chk26⟩, ⟨i27, r27, runG_ok chk27⟩, ⟨i28, r28, runG_ok chk28⟩, ⟨i29, r29, runG_ok chk29⟩, ⟨i30, r30, runG_ok chk30⟩, ⟨i31, r31, runG_ok chk31⟩, ⟨i32, r32, runG_ok chk32⟩, ⟨i33, r33, runG_ok chk33⟩, ⟨i34, r34, runG_ok chk34⟩, ⟨i35, r35, runG_ok chk35⟩, ⟨i36, r36, runG_ok chk36⟩, ⟨i37, r37, runG_ok chk37⟩, ⟨i38, r38, runG_ok chk38⟩, ⟨i39, r39, runG_ok chk39⟩, ⟨i40, r40, runG_ok chk40⟩, ⟨i41, r41, runG_ok chk41⟩, ⟨i42, r42, runG_ok chk42⟩, ⟨i43, r43, runG_ok chk43⟩, ⟨i44, r44, runG_ok chk44⟩, ⟨i45, r45, runG_ok chk45⟩, ⟨i46, r46, runG_ok chk46⟩, ⟨i47, r47, runG_ok chk47⟩, ⟨i48, r48, runG_ok chk48⟩, ⟨i49, r49, runG_ok chk49⟩, ⟨i50, r50, runG_ok chk50⟩, ⟨i51, r51, runG_ok chk51⟩, ⟨i52, r52, runG_ok chk52⟩, ⟨i53, r53, runG_ok chk53⟩, ⟨i54, r54, runG_ok chk54⟩, ⟨i55, r55, runG_ok chk55⟩, ⟨i56, r56, runG_ok chk56⟩, ⟨i57, r57, runG_ok chk57⟩, ⟨i58, r58, runG_ok chk58⟩, ⟨i59, r59, runG_ok chk59⟩, ⟨i60, r60, runG_ok chk60⟩, trivial⟩
structure NOk (n : Nat) : Prop where
  txt : (rTxt n).Ok
  tok : (rTok n).Ok
  row : (rRow n).Ok
  ent : (rEnt n).Ok
  a : runG (toG (eTok n)) = true
  b : runG (toG (eRow n)) = true
  c : runG (toG (eEnt n)) = true
  d : runG (toG (eBad n)) = true
theorem nOk : ∀ n : Nat, 1 ≤ n → n ≤ 30 → NOk n
  | 0, h, _ => absurd h (by decide)
  | 1, _, _ => ⟨rTxt1, rTok1, rRow1, rEnt1, eTok1, eRow1, eEnt1, eBad1⟩
  | 2, _, _ => ⟨rTxt2, rTok2, rRow2, rEnt2, eTok2, eRow2, eEnt2, eBad2⟩
  | 3, _, _ => ⟨rTxt3, rTok3, rRow3, rEnt3, eTok3, eRow3, eEnt3, eBad3⟩
  | 4, _, _ => ⟨rTxt4, rTok4, rRow4, rEnt4, eTok4, eRow4, eEnt4, eBad4⟩
  | 5, _, _ => ⟨rTxt5, rTok5, rRow5, rEnt5, eTok5, eRow5, eEnt5, eBad5⟩
  | 6, _, _ => ⟨rTxt6, rTok6, rRow6, rEnt6, eTok6, eRow6, eEnt6, eBad6⟩
  | 7, _, _ => ⟨rTxt7, rTok7, rRow7, rEnt7, eTok7, eRow7, eEnt7, eBad7⟩
  | 8, _, _ => ⟨rTxt8, rTok8, rRow8, rEnt8, eTok8, eRow8, eEnt8, eBad8⟩
  | 9, _, _ => ⟨rTxt9, rTok9, rRow9, rEnt9, eTok9, eRow9, eEnt9, eBad9⟩
  | 10, _, _ => ⟨rTxt10, rTok10, rRow10, rEnt10, eTok10, eRow10, eEnt10, eBad10⟩
  | 11, _, _ => ⟨rTxt11, rTok11, rRow11, rEnt11, eTok11, eRow11, eEnt11, eBad11⟩
  | 12, _, _ => ⟨rTxt12, rTok12, rRow12, rEnt12, eTok12, eRow12, eEnt12, eBad12⟩
  | 13, _, _ => ⟨rTxt13, rTok13, rRow13, rEnt13, eTok13, eRow13, eEnt13, eBad13⟩
  | 14, _, _ => ⟨rTxt14, rTok14, rRow14, rEnt14, eTok14, eRow14, eEnt14, eBad14⟩
  | 15, _, _ => ⟨rTxt15, rTok15, rRow15, rEnt15, eTok15, eRow15, eEnt15, eBad15⟩
  | 16, _, _ => ⟨rTxt16, rTok16, rRow16, rEnt16, eTok16, eRow16, eEnt16, eBad16⟩
  | 17, _, _ => ⟨rTxt17, rTok17, rRow17, rEnt17, eTok17, eRow17, eEnt17, eBad17⟩
  | 18, _, _ => ⟨rTxt18, rTok18, rRow18, rEnt18, eTok18, eRow18, eEnt18, eBad18⟩
  | 19, _, _ => ⟨rTxt19, rTok19, rRow19, rEnt19, eTok19, eRow19, eEnt19, eBad19⟩
  | 20, _, _ => ⟨rTxt20, rTok20, rRow20, rEnt20, eTok20, eRow20, eEnt20, eBad20⟩
  | 21, _, _ => ⟨rTxt21, rTok21, rRow21, rEnt21, eTok21, eRow21, eEnt21, eBad21⟩
  | 22, _, _ => ⟨rTxt22, rTok22, rRow22, rEnt22, eTok22, eRow22, eEnt22, eBad22⟩
  | 23, _, _ => ⟨rTxt23, rTok23, rRow23, rEnt23, eTok23, eRow23, eEnt23, eBad23⟩
  | 24, _, _ => ⟨rTxt24, rTok24, rRow24, rEnt24, eTok24, eRow24, eEnt24, eBad24⟩
  | 25, _, _ => ⟨rTxt25, rTok25, rRow25, rEnt25, eTok25, eRow25, eEnt25, eBad25⟩
  | 26, _, _ => ⟨rTxt26, rTok26, rRow26, rEnt26, eTok26, eRow26, eEnt26, eBad26⟩
  | 27, _, _ => ⟨rTxt27, rTok27, rRow27, rEnt27, eTok27, eRow27, eEnt27, eBad27⟩
  | 28, _, _ => ⟨rTxt28, rTok28, rRow28, rEnt28, eTok28, eRow28, eEnt28, eBad28⟩
  | 29, _, _ => ⟨rTxt29, rTok29, rRow29, rEnt29, eTok29, eRow29, eEnt29, eBad29⟩
  | 30, _, _ => ⟨rTxt30, rTok30, rRow30, rEnt30, eTok30, eRow30, eEnt30, eBad30⟩
  | n + 31, _, h => absurd h (by omega)
theorem sel_ok {n : Nat} (h : NOk n) : ∀ f args e, sel n f args = some e → POk Tryz.prog γ e := by
  intro f args e hs
  unfold sel at hs
  cases h1 : Nat.beq f 79 with
  | true =>
    rw [h1] at hs
    simp only at hs
    split at hs <;> (try (cases hs; done))
    exact nthP_ok chain_ok hs
  | false =>
  rw [h1] at hs
  simp only at hs
  cases h2 : Nat.beq f 7 with
  | true =>
    rw [h2] at hs
    cases hs
    exact ⟨⟨h.txt, trivial⟩, ⟨h.tok, trivial⟩, runG_ok h.a⟩
  | false =>
  rw [h2] at hs
  simp only at hs
  cases h3 : Nat.beq f 8 with
  | true =>
    rw [h3] at hs
    cases hs
    exact ⟨⟨h.txt, h.tok, trivial⟩, ⟨h.row, trivial⟩, runG_ok h.b⟩
  | false =>
  rw [h3] at hs
  simp only at hs
  cases h4 : Nat.beq f 26 with
  | true =>
    rw [h4] at hs
    cases hs
    exact ⟨⟨h.txt, h.tok, trivial⟩, ⟨h.ent, trivial⟩, runG_ok h.c⟩
  | false =>
  rw [h4] at hs
  simp only at hs
  cases h5 : Nat.beq f 29 with
  | true =>
    rw [h5] at hs
    cases hs
    exact ⟨⟨h.txt, trivial⟩, trivial, runG_ok h.d⟩
  | false => rw [h5] at hs; cases hs
/- what the symbols stand for -/
def gam (a b : Int) (n d : Nat) (j : Nat) : Value :=
  if j = 199 + n then .int .i64 a
  else if j = 99 + d then .int .i64 b
  else if j = 400 then (if n ≤ d then .int .i64 b else .bool false)
  else if j < 130 then .int .i64 ((j - 100 : Nat) : Int)
  else if j < 230 then .int .i64 ((j - 200 : Nat) : Int)
  else if j < 11000000 then .int .i64 ((d + j % 1000 - 30 : Nat) : Int)
  else .int .i64 ((2 * n + 1 + j % 1000 - 61 : Nat) : Int)
theorem tau_ok {a b : Int} {n d : Nat} (hn1 : 1 ≤ n) (hn2 : n ≤ 30) (hd1 : 1 ≤ d) (hd2 : d ≤ 30) : TabOk (gam a b n d) (tauD (2 * n + 1)) := by
  intro k c h ρ x
  unfold tauD at h
  cases hc : (Nat.ble 11000000 k && Nat.blt k 12000000 && Nat.beq (rngHi k) 61 && Nat.ble (rngLo k) (2 * n + 1)) with
  | false => rw [hc] at h; cases h
  | true =>
    rw [hc] at h
    cases h
    simp only [Bool.and_eq_true] at hc
    obtain ⟨⟨⟨h1, h2⟩, h3⟩, h4⟩ := hc
    have h1 := Nat.le_of_ble_eq_true h1
    have h2 : k + 1 ≤ 12000000 := Nat.le_of_ble_eq_true h2
    have h3 : k % 1000 = 61 := Nat.eq_of_beq_eq_true h3
    have h4 : (k - 10000000) / 1000 % 1000 ≤ 2 * n + 1 := Nat.le_of_ble_eq_true h4
    have hk : ∀ j : Nat, 11000000 ≤ j → gam a b n d j = .int .i64 ((2 * n + 1 + j % 1000 - 61 : Nat) : Int) := fun j hj => by
      unfold gam
      rw [if_neg (by omega), if_neg (by omega), if_neg (by omega), if_neg (by omega), if_neg (by omega), if_neg (by omega)]
    have hv : gam a b n d k = .int .i64 ((2 * n + 1 : Nat) : Int) := by
      rw [hk k h1, h3]
      rfl
    refine tab_int (by omega) ⟨1, (k - 10000000) / 1000 % 1000, 61, 2 * n + 1, ?_, h4, by omega, by omega, ?_⟩ hv
    · show k = 10000000 + 1 * 1000000 + (k - 10000000) / 1000 % 1000 * 1000 + 61
      omega
    · intro lo' hi' n' e1 e2 e3 e4 e5
      have e6 : encR 1 lo' hi' = 11000000 + lo' * 1000 + hi' := by unfold encR; omega
      rw [hk _ (by rw [e6]; omega), e6]
      have : 2 * n + 1 + (11000000 + lo' * 1000 + hi') % 1000 - 61 = n' := by omega
      rw [this]
theorem rowsU_ok {a b : Int} {n d : Nat} (hn1 : 1 ≤ n) (hn2 : n ≤ 30) (hd1 : 1 ≤ d) (hd2 : d ≤ 30)
    (ha : ∀ w, Calls Tryz.prog 5 #[.int .i64 a, .int .i64 (30 : Nat)] w fun e w' => e = .returned (.int .i64 ((n - 1 : Nat) : Int)) ∧ w' = w)
    (hb : ∀ w, Calls Tryz.prog 5 #[.int .i64 b, .int .i64 (30 : Nat)] w fun e w' => e = .returned (.int .i64 ((d - 1 : Nat) : Int)) ∧ w' = w) : ExtOk Tryz.prog (gam a b n d) (memo (rowsU n)) := by
  refine memo_ok fun f args v h ρ args' hv w => ?_
  unfold rowsU at h
  cases h1 : Nat.beq f 4 with
  | true =>
    rw [h1] at h
    have := Nat.eq_of_beq_eq_true h1
    subst this
    simp only at h
    split at h <;> (try (cases h; done))
    cases h; cases hv
    refine (known4 w).mono ?_
    rintro e w' ⟨rfl, hb⟩
    exact ⟨_, rfl, hb, .bool true⟩
  | false =>
    rw [h1] at h
    simp only at h
    cases h2 : Nat.beq f 5 with
    | false => rw [h2] at h; cases h
    | true =>
      rw [h2] at h
      have := Nat.eq_of_beq_eq_true h2
      subst this
      simp only at h
      split at h <;> (try (cases h; done))
      rename_i j
      cases hv with
      | cons _ x' _ _ hx hl =>
        cases hl with
        | cons _ y' _ _ hy hl =>
          cases hl
          cases hy
          have hsym : x' = gam a b n d j ∧ (j < 500 → ∃ m, gam a b n d j = .int .i64 m) := by
            generalize hq : IV.sym j = q at hx
            cases hx <;> cases hq
            rename_i p1 p2 p3 p4 p5
            exact ⟨rfl, p2⟩
          obtain ⟨rfl, hint⟩ := hsym
          have self : ∀ k : Nat, k < 30 → v = z k → gam a b n d j = .int .i64 (k : Int) → Calls Tryz.prog 5 [gam a b n d j, .int .i64 (Int.ofNat 30)].toArray w (fun e w' => ∃ v', e = .returned v' ∧ Below w.heap.size w w' ∧ VR ρ (gam a b n d) v v') := fun k hk hvk hg => by
            rw [hg]
            refine (within5_self k hk w).mono ?_
            rintro e w' ⟨rfl, rfl⟩
            exact ⟨_, rfl, Below.refl _ _, by rw [hvk]; exact .int _ _⟩
          cases c1 : Nat.blt j 130 with
          | true =>
            rw [c1] at h
            have c1 : j + 1 ≤ 130 := Nat.le_of_ble_eq_true c1
            cases h
            by_cases hj : j = 99 + d
            · have hg : gam a b n d j = .int .i64 b := by unfold gam; rw [if_neg (by omega), if_pos hj]
              rw [hg]
              refine (hb w).mono ?_
              rintro e w' ⟨rfl, rfl⟩
              refine ⟨_, rfl, Below.refl _ _, ?_⟩
              show VR ρ _ (z (j - 100)) _
              rw [show j - 100 = d - 1 by omega]
              exact .int _ _
            · refine self (j - 100) (by omega) rfl ?_
              unfold gam
              rw [if_neg (by omega), if_neg hj, if_neg (by omega), if_pos (by omega)]
          | false =>
            rw [c1] at h
            simp only at h
            have c1 : ¬ j < 130 := fun hh => by
              have : Nat.blt j 130 = true := Nat.ble_eq_true_of_le hh
              rw [this] at c1; cases c1
            cases c2 : Nat.blt j 230 with
            | true =>
              rw [c2] at h
              have c2 : j + 1 ≤ 230 := Nat.le_of_ble_eq_true c2
              cases h
              by_cases hj : j = 199 + n
              · have hg : gam a b n d j = .int .i64 a := by unfold gam; rw [if_pos hj]
                rw [hg]
                refine (ha w).mono ?_
                rintro e w' ⟨rfl, rfl⟩
                refine ⟨_, rfl, Below.refl _ _, ?_⟩
                show VR ρ _ (z (j - 200)) _
                rw [show j - 200 = n - 1 by omega]
                exact .int _ _
              · refine self (j - 200) (by omega) rfl ?_
                unfold gam
                rw [if_neg hj, if_neg (by omega), if_neg (by omega), if_neg (by omega), if_pos (by omega)]
            | false =>
              rw [c2] at h
              simp only at h
              cases c3 : Nat.beq j 400 with
              | false => rw [c3] at h; cases h
              | true =>
                rw [c3] at h
                have c3 := Nat.eq_of_beq_eq_true c3
                subst c3
                cases h
                have hg0 : gam a b n d 400 = (if n ≤ d then .int .i64 b else .bool false) := by
                  unfold gam
                  rw [if_neg (by omega), if_neg (by omega), if_pos rfl]
                by_cases hnd : n ≤ d
                · rw [if_pos hnd] at hg0
                  rw [hg0]
                  refine (hb w).mono ?_
                  rintro e w' ⟨rfl, rfl⟩
                  refine ⟨_, rfl, Below.refl _ _, ?_⟩
                  have hk : ∀ lo hi : Nat, lo < 1000 → hi < 1000 → gam a b n d (10000000 + lo * 1000 + hi) = .int .i64 ((d + hi - 30 : Nat) : Int) := fun lo hi h1 h2 => by
                    unfold gam
                    rw [if_neg (by omega), if_neg (by omega), if_neg (by omega), if_neg (by omega), if_neg (by omega), if_pos (by omega)]
                    have : (10000000 + lo * 1000 + hi) % 1000 = hi := by omega
                    rw [this]
                  have hv : gam a b n d (10000000 + (n - 1) * 1000 + 29) = .int .i64 ((d - 1 : Nat) : Int) := by
                    rw [hk (n - 1) 29 (by omega) (by omega)]
                    rw [show d + 29 - 30 = d - 1 by omega]
                  rw [← hv]
                  refine .sym _ (by rw [hv]; rfl) (fun h => absurd h (by omega)) (fun _ h => absurd h (by omega)) (fun _ h => absurd h (by omega)) (fun _ => ⟨0, n - 1, 29, d - 1, ?_, by omega, by omega, by omega, ?_⟩)
                  · unfold encR; omega
                  · intro lo' hi' n' e1 e2 e3 e4 e5
                    have e6 : encR 0 lo' hi' = 10000000 + lo' * 1000 + hi' := by unfold encR; omega
                    rw [e6, hk lo' hi' (by omega) e3]
                    have : d + hi' - 30 = n' := by omega
                    rw [this]
                · rw [if_neg hnd] at hg0
                  obtain ⟨m, hm⟩ := hint (by omega)
                  rw [hg0] at hm
                  cases hm
theorem ones_step {n a c : Nat} (h : ones n a (c + 1) = true) : one n (100 + a + c) = true ∧ ones n a c = true := by
  unfold ones at h ⊢
  generalize one n = g at h ⊢
  dsimp only at h
  cases hc : g (100 + a + c) with
  | false => rw [hc] at h; cases h
  | true => rw [hc] at h; exact ⟨rfl, h⟩
theorem ones_get {n a c : Nat} (h : ones n a c = true) (i : Nat) (hi : i < c) : one n (100 + a + i) = true := by
  induction c with
  | zero => omega
  | succ c ih =>
    obtain ⟨h1, h2⟩ := ones_step h
    by_cases e : i = c
    · rw [e]; exact h1
    · exact ih h2 (by omega)
end Go.Proofs.YtphdmkiedglfmaaGreat
