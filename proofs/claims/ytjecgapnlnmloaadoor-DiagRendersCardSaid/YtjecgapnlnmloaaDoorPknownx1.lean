-- PRINTED BY print.sh 35421559b90ae4d0a3588c463048766b98c2df88dd9212a6774a882060cdf62d: not written by this session
import Derived.Test.YtjecgapnlnmloaaDoorPknownx0
namespace Go.Proofs.YtjecgapnlnmloaaDoor.Pknown
open Go.RowKit Go.Proofs.YtjecgapnlnmloaaDoorW.PrintWords Go.Proofs.YtjecgapnlnmloaaDoorW.PrintLast Go.Proofs.YtjecgapnlnmloaaDoorW.PrintMore
attribute [local go_sem] max2_int min2_int max_two min_two max_three min_three max_four min_four   -- for this text's walks alone
set_option linter.unusedVariables false
set_option linter.unusedSimpArgs false

/-! ### diag_words: function 11 -/
def diag_words.f  : Option (List ByteArray) := some (([(⟨#[119, 104, 97, 116]⟩ : ByteArray), (⟨#[98, 121, 116, 101]⟩ : ByteArray), (⟨#[116, 97, 98]⟩ : ByteArray), (⟨#[113, 117, 111, 116, 101]⟩ : ByteArray), (⟨#[101, 115, 99, 97, 112, 101]⟩ : ByteArray), (⟨#[109, 105, 120, 101, 100]⟩ : ByteArray), (⟨#[105, 110, 100, 101, 110, 116]⟩ : ByteArray), (⟨#[115, 101, 99, 111, 110, 100]⟩ : ByteArray), (⟨#[115, 116, 114, 97, 121]⟩ : ByteArray), (⟨#[111, 112, 101, 110]⟩ : ByteArray), (⟨#[100, 101, 101, 112]⟩ : ByteArray), (⟨#[97, 108, 105, 97, 115]⟩ : ByteArray)] : List ByteArray))
set_option maxHeartbeats 8000000 in
set_option maxRecDepth 100000 in
theorem diag_words.calls  (r : List ByteArray) (w : World) (h : diag_words.f  = some r) :
    Calls Tryd.prog 11 #[] w fun e w' => ∃ v0_ : Value, e = .returned (v0_) ∧ Kd.R Kd.string 9 w' w.heap.size (fun _ => True) v0_ r ∧ Below w.heap.size w w' := by
  have HB := Aside0.mk (Below.refl w.heap.size w)
  have H : (some (([(⟨#[119, 104, 97, 116]⟩ : ByteArray), (⟨#[98, 121, 116, 101]⟩ : ByteArray), (⟨#[116, 97, 98]⟩ : ByteArray), (⟨#[113, 117, 111, 116, 101]⟩ : ByteArray), (⟨#[101, 115, 99, 97, 112, 101]⟩ : ByteArray), (⟨#[109, 105, 120, 101, 100]⟩ : ByteArray), (⟨#[105, 110, 100, 101, 110, 116]⟩ : ByteArray), (⟨#[115, 101, 99, 111, 110, 100]⟩ : ByteArray), (⟨#[115, 116, 114, 97, 121]⟩ : ByteArray), (⟨#[111, 112, 101, 110]⟩ : ByteArray), (⟨#[100, 101, 101, 112]⟩ : ByteArray), (⟨#[97, 108, 105, 97, 115]⟩ : ByteArray)] : List ByteArray))) = some r := h
  clear h
  obtain ⟨y101, hy101⟩ : ∃ y_ : List ByteArray, y_ = (([(⟨#[119, 104, 97, 116]⟩ : ByteArray), (⟨#[98, 121, 116, 101]⟩ : ByteArray), (⟨#[116, 97, 98]⟩ : ByteArray), (⟨#[113, 117, 111, 116, 101]⟩ : ByteArray), (⟨#[101, 115, 99, 97, 112, 101]⟩ : ByteArray), (⟨#[109, 105, 120, 101, 100]⟩ : ByteArray), (⟨#[105, 110, 100, 101, 110, 116]⟩ : ByteArray), (⟨#[115, 101, 99, 111, 110, 100]⟩ : ByteArray), (⟨#[115, 116, 114, 97, 121]⟩ : ByteArray), (⟨#[111, 112, 101, 110]⟩ : ByteArray), (⟨#[100, 101, 101, 112]⟩ : ByteArray), (⟨#[97, 108, 105, 97, 115]⟩ : ByteArray)] : List ByteArray)) := ⟨_, rfl⟩
  replace H : (some y101) = some r := by first | (rw [hy101]; with_reducible exact H) | (have H2_ := (Option.bind_some _ _).symm.trans H; rw [hy101]; with_reducible exact H2_) | (have H2_ := (Option.bind_some _ _).symm.trans H; with_reducible exact H2_) | with_reducible exact H | (rw [hy101]; exact H) | exact H
  have Ny101 := Aside0.mk hy101
  clear hy101
  obtain rfl := Option.some.inj H
  go_enter Tryd.func11, Tryd.ntmps11
  go_wp2_with (first | ((with_reducible refine gate_dst (N := 1) rfl ?_); refine Kd.R_lit Kd.string _ 9 ?hg (N := 1) ?hd (xs := ([(⟨#[119, 104, 97, 116]⟩ : ByteArray), (⟨#[98, 121, 116, 101]⟩ : ByteArray), (⟨#[116, 97, 98]⟩ : ByteArray), (⟨#[113, 117, 111, 116, 101]⟩ : ByteArray), (⟨#[101, 115, 99, 97, 112, 101]⟩ : ByteArray), (⟨#[109, 105, 120, 101, 100]⟩ : ByteArray), (⟨#[105, 110, 100, 101, 110, 116]⟩ : ByteArray), (⟨#[115, 101, 99, 111, 110, 100]⟩ : ByteArray), (⟨#[115, 116, 114, 97, 121]⟩ : ByteArray), (⟨#[111, 112, 101, 110]⟩ : ByteArray), (⟨#[100, 101, 101, 112]⟩ : ByteArray), (⟨#[97, 108, 105, 97, 115]⟩ : ByteArray)] : List ByteArray)) (inner := [.string (⟨#[119, 104, 97, 116]⟩ : ByteArray), .string (⟨#[98, 121, 116, 101]⟩ : ByteArray), .string (⟨#[116, 97, 98]⟩ : ByteArray), .string (⟨#[113, 117, 111, 116, 101]⟩ : ByteArray), .string (⟨#[101, 115, 99, 97, 112, 101]⟩ : ByteArray), .string (⟨#[109, 105, 120, 101, 100]⟩ : ByteArray), .string (⟨#[105, 110, 100, 101, 110, 116]⟩ : ByteArray), .string (⟨#[115, 101, 99, 111, 110, 100]⟩ : ByteArray), .string (⟨#[115, 116, 114, 97, 121]⟩ : ByteArray), .string (⟨#[111, 112, 101, 110]⟩ : ByteArray), .string (⟨#[100, 101, 101, 112]⟩ : ByteArray), .string (⟨#[97, 108, 105, 97, 115]⟩ : ByteArray)]) (ok := fun _ => True) (okp := fun _ => True) ?hr ?hp (fun _ hk => hk) trivial (Below.refl _ _) (Nat.le_refl _) (by simp) ?_; (case hd => rfl); (case hg => rfl); (case hr => first | (go_simp; done) | (go_simp; rfl)); (case hp => exact (Reps.one (show Kd.M Kd.string _ _ _ (⟨#[119, 104, 97, 116]⟩ : ByteArray) [.string (⟨#[119, 104, 97, 116]⟩ : ByteArray)] from rfl) (Reps.one (show Kd.M Kd.string _ _ _ (⟨#[98, 121, 116, 101]⟩ : ByteArray) [.string (⟨#[98, 121, 116, 101]⟩ : ByteArray)] from rfl) (Reps.one (show Kd.M Kd.string _ _ _ (⟨#[116, 97, 98]⟩ : ByteArray) [.string (⟨#[116, 97, 98]⟩ : ByteArray)] from rfl) (Reps.one (show Kd.M Kd.string _ _ _ (⟨#[113, 117, 111, 116, 101]⟩ : ByteArray) [.string (⟨#[113, 117, 111, 116, 101]⟩ : ByteArray)] from rfl) (Reps.one (show Kd.M Kd.string _ _ _ (⟨#[101, 115, 99, 97, 112, 101]⟩ : ByteArray) [.string (⟨#[101, 115, 99, 97, 112, 101]⟩ : ByteArray)] from rfl) (Reps.one (show Kd.M Kd.string _ _ _ (⟨#[109, 105, 120, 101, 100]⟩ : ByteArray) [.string (⟨#[109, 105, 120, 101, 100]⟩ : ByteArray)] from rfl) (Reps.one (show Kd.M Kd.string _ _ _ (⟨#[105, 110, 100, 101, 110, 116]⟩ : ByteArray) [.string (⟨#[105, 110, 100, 101, 110, 116]⟩ : ByteArray)] from rfl) (Reps.one (show Kd.M Kd.string _ _ _ (⟨#[115, 101, 99, 111, 110, 100]⟩ : ByteArray) [.string (⟨#[115, 101, 99, 111, 110, 100]⟩ : ByteArray)] from rfl) (Reps.one (show Kd.M Kd.string _ _ _ (⟨#[115, 116, 114, 97, 121]⟩ : ByteArray) [.string (⟨#[115, 116, 114, 97, 121]⟩ : ByteArray)] from rfl) (Reps.one (show Kd.M Kd.string _ _ _ (⟨#[111, 112, 101, 110]⟩ : ByteArray) [.string (⟨#[111, 112, 101, 110]⟩ : ByteArray)] from rfl) (Reps.one (show Kd.M Kd.string _ _ _ (⟨#[100, 101, 101, 112]⟩ : ByteArray) [.string (⟨#[100, 101, 101, 112]⟩ : ByteArray)] from rfl) (Reps.one (show Kd.M Kd.string _ _ _ (⟨#[97, 108, 105, 97, 115]⟩ : ByteArray) [.string (⟨#[97, 108, 105, 97, 115]⟩ : ByteArray)] from rfl) (Reps.none _ _)))))))))))))); intro v102 w1 ho2 hb hg_ hnew_; clear hg_ hnew_; (first | rw [← Ny101.out] at ho2 | (simp only [Int.reduceToNat] at ho2; rw [← Ny101.out] at ho2)); have n0_ := Aside0.mk (Kd.R_lower ho2 (below_size (by repeat (first | (with_reducible first | exact HB.out | apply below_alloc | apply pw_below_drewN | apply below_drew1) | exact HB.out)))); have n1_ := Aside0.mk (below_step (by repeat (first | (with_reducible first | exact HB.out | apply below_alloc | apply pw_below_drewN | apply below_drew1) | exact HB.out)) hb); clear HB; have HO103 := n0_; have HB := n1_; clear n0_ n1_; clear hb ho2))
  go_ret
  exact ⟨_, by first | rfl | (simp [errW_none, errW_some] <;> rfl) | (simp [*, errW_none, errW_some] <;> rfl), by (with_reducible repeat (first | apply Kd.R_alloc | apply Kd.R_drewN | apply Kd.R_drew)); exact HO103.out, by repeat (first | (with_reducible first | exact HB.out | apply below_alloc | apply pw_below_drewN | apply below_drew1) | exact HB.out)⟩

/-! ### diag_Text: function 6 -/
def diag_Text.j0 : Nat → Int → Bool → Option (ByteArray)
  | 0, _, _ => none
  | k + 1, x0, x8 => if x8 = true then ((diag_words.f).bind fun t104 => (if 0 < (t104.length : Int) then (some (rdOf ByteArray.empty t104 0)) else (none))) else ((diag_words.f).bind fun t108 => (if 0 ≤ x0 then (if x0 < (t108.length : Int) then (some (rdOf ByteArray.empty t108 x0)) else (none)) else (none)))
def diag_Text.f (k : Nat) (a0 : Int) : Option (ByteArray) := if a0 < 1 then (diag_Text.j0 k a0 true) else (diag_Text.j0 k a0 (decide (a0 > 11)))
theorem diag_Text.mono_l : ∀ k, (∀ y0 y1, LeO (diag_Text.j0 k y0 y1) (diag_Text.j0 (k + 1) y0 y1))
  | 0 => fun _ _ r h => by simp [diag_Text.j0] at h
  | k + 1 => by
    have ih0 := diag_Text.mono_l k
    · intro y0 y1
      unfold diag_Text.j0
      repeat' first
      | (with_reducible exact ih0 _ _)
      | (with_reducible exact LeO.refl _)
      | (with_reducible exact LeO.none _)
      | (with_reducible refine LeO.ite ?_ ?_)
      | (with_reducible refine LeO.bind ?_ (fun _ => ?_))
      | exact ih0 _ _
      | exact LeO.none _
      | refine LeO.ite ?_ ?_
      | refine LeO.bind ?_ (fun _ => ?_)
theorem diag_Text.mono : ∀ a0 k, LeO (diag_Text.f k a0) (diag_Text.f (k + 1) a0) := by
  intro a0 k
  have ih0 := diag_Text.mono_l k
  unfold diag_Text.f
  repeat' first
      | (with_reducible exact ih0 _ _)
      | (with_reducible exact LeO.refl _)
      | (with_reducible exact LeO.none _)
      | (with_reducible refine LeO.ite ?_ ?_)
      | (with_reducible refine LeO.bind ?_ (fun _ => ?_))
      | exact ih0 _ _
      | exact LeO.none _
      | refine LeO.ite ?_ ?_
      | refine LeO.bind ?_ (fun _ => ?_)
set_option maxHeartbeats 8000000 in
set_option maxRecDepth 100000 in
theorem diag_Text.calls (k : Nat) (a0 : Int) (r : ByteArray) (w : World) (h : diag_Text.f k a0 = some r) :
    Calls Tryd.prog 6 #[.int .i64 a0] w fun e w' => e = .returned (.string r) ∧ Below w.heap.size w w' := by
  have HB := Aside0.mk (Below.refl w.heap.size w)
  have H : (if a0 < 1 then (diag_Text.j0 k a0 true) else (diag_Text.j0 k a0 (decide (a0 > 11)))) = some r := h
  clear h
  have HC2 := Aside0.mk H
  clear H
  go_enter Tryd.func6, Tryd.ntmps6
  go_upto_region 1 with (fail)
  go_cut [8] (fun v8 wc => ∃ (kq : Nat) (x8_1 : Bool), v8 = .bool x8_1 ∧ Aside0 (diag_Text.j0 kq a0 x8_1 = some r) ∧ Aside0 (kq ≤ k) ∧ Aside0 (Below w.heap.size w wc))
  case first =>
    have H := HC2.out
    clear HC2
    by_cases c3 : a0 < 1
    · rw [if_pos c3] at H
      have c3b0 : decide (a0 < 1) = true := decide_eq_true c3
      clear c3
      (first | rw [c3b0] | (simp only [i64_w, i32_w]; rw [c3b0]) | skip)
      have H' := Aside0.mk H
      clear H
      go_wp2
      go_meet
      case rel => exact ⟨_, (true), (by first | rfl | (simp; done) | (simp [*]; done)), H', ⟨by first | omega | exact Nat.le_refl _⟩, ⟨by repeat (first | (with_reducible first | exact HB.out | apply below_alloc | apply pw_below_drewN | apply below_drew1) | exact HB.out)⟩⟩
    · rw [if_neg c3] at H
      have c3b0 : decide (a0 < 1) = false := decide_eq_false c3
      clear c3
      (first | rw [c3b0] | (simp only [i64_w, i32_w]; rw [c3b0]) | skip)
      have H' := Aside0.mk H
      clear H
      go_wp2
      go_meet
      case rel => exact ⟨_, (decide (a0 > 11)), (by first | rfl | (simp; done) | (simp [*]; done)), H', ⟨by first | omega | exact Nat.le_refl _⟩, ⟨by repeat (first | (with_reducible first | exact HB.out | apply below_alloc | apply pw_below_drewN | apply below_drew1) | exact HB.out)⟩⟩
  case rest =>
    clear HC2
    try clear p2
    try clear c3
    try clear c3b0
    obtain ⟨kq, x8_1, rfl, HA, HJ1, HB⟩ := hcut
    cases kq with
    | zero => exact absurd HA.out (by simp [diag_Text.j0])
    | succ kj1 =>
      have H := HA.out
      clear HA
      simp only [diag_Text.j0] at H
      by_cases c4 : x8_1 = true
      · subst c4
        have H1 : ((diag_words.f).bind fun t104 => (if 0 < (t104.length : Int) then (some (rdOf ByteArray.empty t104 0)) else (none))) = some r := by rw [if_pos rfl] at H; exact H
        clear H
        have H := H1
        clear H1
        replace H := Option.bind_eq_some_iff.mp H
        obtain ⟨t104, A50, H⟩ := H
        replace H : (if 0 < (t104.length : Int) then (some (rdOf ByteArray.empty t104 0)) else (none)) = some r := H
        have A5 := Aside0.mk A50
        clear A50
        by_cases c6 : 0 < (t104.length : Int)
        · rw [if_pos c6] at H
          have c6b0 : decide (0 < (t104.length : Int)) = true := decide_eq_true c6
          have c6b1 : decide (0 < t104.length) = true := decide_eq_true (by omega)
          clear c6
          obtain rfl := Option.some.inj H
          go_wp2_with (first | ((with_reducible refine gate_callee (f := 11) rfl ?_); refine goesL_ (some 9) rfl rfl Tryd.func11 (by kernel_rfl) rfl #[] rfl (by (try simp only [List.map_toArray, List.map_cons, List.map_nil]); first | done | rfl | (simp only [List.length_drop, List.length_take]; rfl)) ?_; (with_reducible refine (diag_words.calls  t104 _ A5.out).mono ?_); rintro e w7 ⟨v105, rfl, ho0, hb⟩; refine ⟨_, rfl, ?_⟩; have n0_ := Aside0.mk (Kd.R_lower ho0 (below_size (by repeat (first | (with_reducible first | exact HB.out | apply below_alloc | apply pw_below_drewN | apply below_drew1) | exact HB.out)))); have n1_ := Aside0.mk (below_step (by repeat (first | (with_reducible first | exact HB.out | apply below_alloc | apply pw_below_drewN | apply below_drew1) | exact HB.out)) hb); clear HB; have HO106 := n0_; have HB := n1_; clear n0_ n1_; (try clear hb); (try clear hb2); (try clear hk); (try clear hi); (try clear ho0); obtain ⟨Ao8, co8, eo8⟩ := Kd.R_slice HO106.out; subst eo8; have p107 : 0 ≤ (0 : Int) := (by omega); have q107 : 0 < (t104.length : Int) := of_decide_eq_true (by first | (with_reducible assumption) | assumption); obtain ⟨ad107, e107, hx107_0⟩ := Kd.at_string (Kd.R_reads' HO106.out).2.2 0 p107 q107; cases e107; have qi107 : (0 < t104.length) = True := eq_true (by omega); (try rw [show ((0 : Int)).toNat = 0 from rfl] at hx107_0); (try rw [Addr.add_zero'] at hx107_0); replace p107 := eq_true p107; replace q107 := eq_true q107))
          go_ret
          exact ⟨by first | rfl | (simp [errW_none, errW_some] <;> rfl) | (simp [*, errW_none, errW_some] <;> rfl), by repeat (first | (with_reducible first | exact HB.out | apply below_alloc | apply pw_below_drewN | apply below_drew1) | exact HB.out)⟩
        · rw [if_neg c6] at H
          exact absurd H (by simp)
      · replace c4 := Bool.eq_false_iff.mpr c4
        subst c4
        have H1 : ((diag_words.f).bind fun t108 => (if 0 ≤ a0 then (if a0 < (t108.length : Int) then (some (rdOf ByteArray.empty t108 a0)) else (none)) else (none))) = some r := by rw [if_neg (show ¬ (false = true) by decide)] at H; exact H
        clear H
        have H := H1
        clear H1
        replace H := Option.bind_eq_some_iff.mp H
        obtain ⟨t108, A90, H⟩ := H
        replace H : (if 0 ≤ a0 then (if a0 < (t108.length : Int) then (some (rdOf ByteArray.empty t108 a0)) else (none)) else (none)) = some r := H
        have A9 := Aside0.mk A90
        clear A90
        by_cases c10 : 0 ≤ a0
        · rw [if_pos c10] at H
          have c10b0 : decide (0 ≤ a0) = true := decide_eq_true c10
          clear c10
          by_cases c11 : a0 < (t108.length : Int)
          · rw [if_pos c11] at H
            have c11b0 : decide (a0 < (t108.length : Int)) = true := decide_eq_true c11
            clear c11
            obtain rfl := Option.some.inj H
            go_wp2_with (first | ((with_reducible refine gate_callee (f := 11) rfl ?_); refine goesL_ (some 12) rfl rfl Tryd.func11 (by kernel_rfl) rfl #[] rfl (by (try simp only [List.map_toArray, List.map_cons, List.map_nil]); first | done | rfl | (simp only [List.length_drop, List.length_take]; rfl)) ?_; (with_reducible refine (diag_words.calls  t108 _ A9.out).mono ?_); rintro e w12 ⟨v109, rfl, ho0, hb⟩; refine ⟨_, rfl, ?_⟩; have n0_ := Aside0.mk (Kd.R_lower ho0 (below_size (by repeat (first | (with_reducible first | exact HB.out | apply below_alloc | apply pw_below_drewN | apply below_drew1) | exact HB.out)))); have n1_ := Aside0.mk (below_step (by repeat (first | (with_reducible first | exact HB.out | apply below_alloc | apply pw_below_drewN | apply below_drew1) | exact HB.out)) hb); clear HB; have HO110 := n0_; have HB := n1_; clear n0_ n1_; (try clear hb); (try clear hb2); (try clear hk); (try clear hi); (try clear ho0); obtain ⟨Ao13, co13, eo13⟩ := Kd.R_slice HO110.out; subst eo13; have p111 : 0 ≤ (a0 : Int) := of_decide_eq_true (by first | (with_reducible assumption) | assumption); have q111 : a0 < (t108.length : Int) := of_decide_eq_true (by first | (with_reducible assumption) | assumption); obtain ⟨ad111, e111, hx111_0⟩ := Kd.at_string (Kd.R_reads' HO110.out).2.2 a0 p111 q111; cases e111; replace p111 := eq_true p111; replace q111 := eq_true q111))
            go_ret
            exact ⟨by first | rfl | (simp [errW_none, errW_some] <;> rfl) | (simp [*, errW_none, errW_some] <;> rfl), by repeat (first | (with_reducible first | exact HB.out | apply below_alloc | apply pw_below_drewN | apply below_drew1) | exact HB.out)⟩
          · rw [if_neg c11] at H
            exact absurd H (by simp)
        · rw [if_neg c10] at H
          exact absurd H (by simp)

/-! ### correctorlaw14_known: function 4 -/
def correctorlaw14_known.f (k : Nat)  : Option (Bool) := (diag_Text.f k 0).bind fun t112 => (if t112.toList = ([119, 104, 97, 116] : List UInt8) then ((diag_Text.f k 1).bind fun t113 => (some (t113.toList == ([98, 121, 116, 101] : List UInt8)))) else (some false))
theorem correctorlaw14_known.mono : ∀ k, LeO (correctorlaw14_known.f k ) (correctorlaw14_known.f (k + 1) ) := by
  intro  k
  unfold correctorlaw14_known.f
  repeat' first
      | (with_reducible exact diag_Text.mono _ _)
      | (with_reducible exact LeO.refl _)
      | (with_reducible exact LeO.none _)
      | (with_reducible refine LeO.ite ?_ ?_)
      | (with_reducible refine LeO.bind ?_ (fun _ => ?_))
      | exact diag_Text.mono _ _
      | exact LeO.none _
      | refine LeO.ite ?_ ?_
      | refine LeO.bind ?_ (fun _ => ?_)
set_option maxHeartbeats 8000000 in
set_option maxRecDepth 100000 in
theorem correctorlaw14_known.calls (k : Nat)  (r : Bool) (w : World) (h : correctorlaw14_known.f k  = some r) :
    Calls Tryd.prog 4 #[] w fun e w' => e = .returned (.bool r) ∧ Below w.heap.size w w' := by
  have HB := Aside0.mk (Below.refl w.heap.size w)
  have H : ((diag_Text.f k 0).bind fun t112 => (if t112.toList = ([119, 104, 97, 116] : List UInt8) then ((diag_Text.f k 1).bind fun t113 => (some (t113.toList == ([98, 121, 116, 101] : List UInt8)))) else (some false))) = some r := h
  clear h
  replace H := Option.bind_eq_some_iff.mp H
  obtain ⟨t112, A10, H⟩ := H
  replace H : (if t112.toList = ([119, 104, 97, 116] : List UInt8) then ((diag_Text.f k 1).bind fun t113 => (some (t113.toList == ([98, 121, 116, 101] : List UInt8)))) else (some false)) = some r := H
  have A1 := Aside0.mk A10
  clear A10
  by_cases c2 : t112.toList = ([119, 104, 97, 116] : List UInt8)
  · rw [if_pos c2] at H
    have c2b0 : (t112.toList == ([119, 104, 97, 116] : List UInt8)) = true := beq_iff_eq.mpr c2
    have c2b1 : (t112.toList != ([119, 104, 97, 116] : List UInt8)) = false := bne_eq_false_iff_eq.mpr c2
    clear c2
    replace H := Option.bind_eq_some_iff.mp H
    obtain ⟨t113, A30, H⟩ := H
    replace H : (some (t113.toList == ([98, 121, 116, 101] : List UInt8))) = some r := H
    have A3 := Aside0.mk A30
    clear A30
    obtain rfl := Option.some.inj H
    go_enter Tryd.func4, Tryd.ntmps4
    go_wp2_with (first | ((with_reducible refine gate_callee (f := 6) rfl ?_); refine goesL_ (some 1) rfl rfl Tryd.func6 (by kernel_rfl) rfl #[.int .i64 0] rfl (by (try simp only [List.map_toArray, List.map_cons, List.map_nil]); first | done | rfl | (simp only [List.length_drop, List.length_take]; rfl)) ?_; (with_reducible refine (diag_Text.calls k 0 t112 _ A1.out).mono ?_); rintro e w4 ⟨rfl, hb⟩; refine ⟨_, rfl, ?_⟩; have n0_ := Aside0.mk (below_step (by repeat (first | (with_reducible first | exact HB.out | apply below_alloc | apply pw_below_drewN | apply below_drew1) | exact HB.out)) hb); clear HB; have HB := n0_; clear n0_; (try clear hb); (try clear hb2); (try clear hk); (try clear hi)) | (go_at_call 6; (with_reducible refine (diag_Text.calls k 1 t113 _ A3.out).mono ?_); rintro e w5 ⟨rfl, hb⟩; have n0_ := Aside0.mk (below_step (by repeat (first | (with_reducible first | exact HB.out | apply below_alloc | apply pw_below_drewN | apply below_drew1) | exact HB.out)) hb); clear HB; have HB := n0_; clear n0_; (try clear hb); (try clear hb2); (try clear hk); (try clear hi)))
    go_ret
    exact ⟨by first | rfl | (simp [errW_none, errW_some] <;> rfl) | (simp [*, errW_none, errW_some] <;> rfl), by repeat (first | (with_reducible first | exact HB.out | apply below_alloc | apply pw_below_drewN | apply below_drew1) | exact HB.out)⟩
  · rw [if_neg c2] at H
    have c2b0 : (t112.toList == ([119, 104, 97, 116] : List UInt8)) = false := beq_eq_false_iff_ne.mpr c2
    have c2b1 : (t112.toList != ([119, 104, 97, 116] : List UInt8)) = true := bne_iff_ne.mpr c2
    obtain rfl := Option.some.inj H
    go_enter Tryd.func4, Tryd.ntmps4
    go_wp2_with (first | ((with_reducible refine gate_callee (f := 6) rfl ?_); refine goesL_ (some 1) rfl rfl Tryd.func6 (by kernel_rfl) rfl #[.int .i64 0] rfl (by (try simp only [List.map_toArray, List.map_cons, List.map_nil]); first | done | rfl | (simp only [List.length_drop, List.length_take]; rfl)) ?_; (with_reducible refine (diag_Text.calls k 0 t112 _ A1.out).mono ?_); rintro e w6 ⟨rfl, hb⟩; refine ⟨_, rfl, ?_⟩; have n0_ := Aside0.mk (below_step (by repeat (first | (with_reducible first | exact HB.out | apply below_alloc | apply pw_below_drewN | apply below_drew1) | exact HB.out)) hb); clear HB; have HB := n0_; clear n0_; (try clear hb); (try clear hb2); (try clear hk); (try clear hi)))
    go_ret
    exact ⟨by first | rfl | (simp [errW_none, errW_some] <;> rfl) | (simp [*, errW_none, errW_some] <;> rfl), by repeat (first | (with_reducible first | exact HB.out | apply below_alloc | apply pw_below_drewN | apply below_drew1) | exact HB.out)⟩

/-- THE ONE PURE STATEMENT of correctorlaw14_known: yours. -/
def correctorlaw14_known.Pure : Prop := ∃ k, correctorlaw14_known.f k  = some true
theorem correctorlaw14_known.walk (P : correctorlaw14_known.Pure)  (w : World)  :
    Calls Tryd.prog 4 #[] w fun e w' => e = .returned (.bool true) ∧ Below w.heap.size w w' := by
  obtain ⟨k, h⟩ := P  
  refine (correctorlaw14_known.calls k  true w h).mono ?_
  rintro e w' ⟨rfl, hd⟩
  exact ⟨rfl, hd⟩

end Go.Proofs.YtjecgapnlnmloaaDoor.Pknown
