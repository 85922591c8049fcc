-- PRINTED BY print.sh 35421559b90ae4d0a3588c463048766b98c2df88dd9212a6774a882060cdf62d: not written by this session
import Derived.Test.YtjecgapnlnmloaaDoorPRenderx0
namespace Go.Proofs.YtjecgapnlnmloaaDoor.PRender
open Go.RowKit Go.Proofs.YtjecgapnlnmloaaDoorW.PrintWords Go.Proofs.YtjecgapnlnmloaaDoorW.PrintLast Go.Proofs.YtjecgapnlnmloaaDoorW.PrintMore
attribute [local go_sem] max2_int min2_int max_two min_two max_three min_three max_four min_four   -- for this text's walks alone
set_option linter.unusedVariables false
set_option linter.unusedSimpArgs false

/-! ### correctorref14_Text: function 7 -/
def correctorref14_Text.f (a0 : Int) : Option (ByteArray) := (some (([(⟨#[119, 104, 97, 116]⟩ : ByteArray), (⟨#[98, 121, 116, 101]⟩ : ByteArray), (⟨#[116, 97, 98]⟩ : ByteArray), (⟨#[113, 117, 111, 116, 101]⟩ : ByteArray), (⟨#[101, 115, 99, 97, 112, 101]⟩ : ByteArray), (⟨#[109, 105, 120, 101, 100]⟩ : ByteArray), (⟨#[105, 110, 100, 101, 110, 116]⟩ : ByteArray), (⟨#[115, 101, 99, 111, 110, 100]⟩ : ByteArray), (⟨#[115, 116, 114, 97, 121]⟩ : ByteArray), (⟨#[111, 112, 101, 110]⟩ : ByteArray), (⟨#[100, 101, 101, 112]⟩ : ByteArray), (⟨#[97, 108, 105, 97, 115]⟩ : ByteArray)] : List ByteArray) : List ByteArray)).bind fun y101 => (if a0 < 1 then (if 0 < (y101.length : Int) then (some (rdOf ByteArray.empty y101 0)) else (none)) else (if a0 ≥ (y101.length : Int) then (if 0 < (y101.length : Int) then (some (rdOf ByteArray.empty y101 0)) else (none)) else (if 0 ≤ a0 then (if a0 < (y101.length : Int) then (some (rdOf ByteArray.empty y101 a0)) else (none)) else (none))))
set_option maxHeartbeats 8000000 in
set_option maxRecDepth 100000 in
theorem correctorref14_Text.calls (a0 : Int) (r : ByteArray) (w : World) (h : correctorref14_Text.f a0 = some r) :
    Calls Tryd.prog 7 #[.int .i64 a0] w fun e w' => e = .returned (.string r) ∧ Below w.heap.size w w' := by
  have HB := Aside0.mk (Below.refl w.heap.size w)
  have H : ((some (([(⟨#[119, 104, 97, 116]⟩ : ByteArray), (⟨#[98, 121, 116, 101]⟩ : ByteArray), (⟨#[116, 97, 98]⟩ : ByteArray), (⟨#[113, 117, 111, 116, 101]⟩ : ByteArray), (⟨#[101, 115, 99, 97, 112, 101]⟩ : ByteArray), (⟨#[109, 105, 120, 101, 100]⟩ : ByteArray), (⟨#[105, 110, 100, 101, 110, 116]⟩ : ByteArray), (⟨#[115, 101, 99, 111, 110, 100]⟩ : ByteArray), (⟨#[115, 116, 114, 97, 121]⟩ : ByteArray), (⟨#[111, 112, 101, 110]⟩ : ByteArray), (⟨#[100, 101, 101, 112]⟩ : ByteArray), (⟨#[97, 108, 105, 97, 115]⟩ : ByteArray)] : List ByteArray) : List ByteArray)).bind fun y101 => (if a0 < 1 then (if 0 < (y101.length : Int) then (some (rdOf ByteArray.empty y101 0)) else (none)) else (if a0 ≥ (y101.length : Int) then (if 0 < (y101.length : Int) then (some (rdOf ByteArray.empty y101 0)) else (none)) else (if 0 ≤ a0 then (if a0 < (y101.length : Int) then (some (rdOf ByteArray.empty y101 a0)) else (none)) else (none))))) = some r := h
  clear h
  obtain ⟨y101, hy101⟩ : ∃ y_ : List ByteArray, y_ = (([(⟨#[119, 104, 97, 116]⟩ : ByteArray), (⟨#[98, 121, 116, 101]⟩ : ByteArray), (⟨#[116, 97, 98]⟩ : ByteArray), (⟨#[113, 117, 111, 116, 101]⟩ : ByteArray), (⟨#[101, 115, 99, 97, 112, 101]⟩ : ByteArray), (⟨#[109, 105, 120, 101, 100]⟩ : ByteArray), (⟨#[105, 110, 100, 101, 110, 116]⟩ : ByteArray), (⟨#[115, 101, 99, 111, 110, 100]⟩ : ByteArray), (⟨#[115, 116, 114, 97, 121]⟩ : ByteArray), (⟨#[111, 112, 101, 110]⟩ : ByteArray), (⟨#[100, 101, 101, 112]⟩ : ByteArray), (⟨#[97, 108, 105, 97, 115]⟩ : ByteArray)] : List ByteArray)) := ⟨_, rfl⟩
  replace H : (if a0 < 1 then (if 0 < (y101.length : Int) then (some (rdOf ByteArray.empty y101 0)) else (none)) else (if a0 ≥ (y101.length : Int) then (if 0 < (y101.length : Int) then (some (rdOf ByteArray.empty y101 0)) else (none)) else (if 0 ≤ a0 then (if a0 < (y101.length : Int) then (some (rdOf ByteArray.empty y101 a0)) else (none)) else (none)))) = some r := by first | (rw [hy101]; with_reducible exact H) | (have H2_ := (Option.bind_some _ _).symm.trans H; rw [hy101]; with_reducible exact H2_) | (have H2_ := (Option.bind_some _ _).symm.trans H; with_reducible exact H2_) | with_reducible exact H | (rw [hy101]; exact H) | exact H
  have Ny101 := Aside0.mk hy101
  clear hy101
  by_cases c2 : a0 < 1
  · rw [if_pos c2] at H
    have c2b0 : decide (a0 < 1) = true := decide_eq_true c2
    clear c2
    by_cases c3 : 0 < (y101.length : Int)
    · rw [if_pos c3] at H
      have c3b0 : decide (0 < (y101.length : Int)) = true := decide_eq_true c3
      have c3b1 : decide (0 < y101.length) = true := decide_eq_true (by omega)
      clear c3
      obtain rfl := Option.some.inj H
      go_enter Tryd.func7, Tryd.ntmps7
      go_wp2_with (first | ((with_reducible refine gate_dst (N := 4) rfl ?_); (try (refine gate_guard (by rfl) ?_; dsimp only)); refine Kd.R_lit Kd.string _ 9 ?hg (N := 4) ?hd (xs := ([(⟨#[119, 104, 97, 116]⟩ : ByteArray), (⟨#[98, 121, 116, 101]⟩ : ByteArray), (⟨#[116, 97, 98]⟩ : ByteArray), (⟨#[113, 117, 111, 116, 101]⟩ : ByteArray), (⟨#[101, 115, 99, 97, 112, 101]⟩ : ByteArray), (⟨#[109, 105, 120, 101, 100]⟩ : ByteArray), (⟨#[105, 110, 100, 101, 110, 116]⟩ : ByteArray), (⟨#[115, 101, 99, 111, 110, 100]⟩ : ByteArray), (⟨#[115, 116, 114, 97, 121]⟩ : ByteArray), (⟨#[111, 112, 101, 110]⟩ : ByteArray), (⟨#[100, 101, 101, 112]⟩ : ByteArray), (⟨#[97, 108, 105, 97, 115]⟩ : ByteArray)] : List ByteArray)) (inner := [.string (⟨#[119, 104, 97, 116]⟩ : ByteArray), .string (⟨#[98, 121, 116, 101]⟩ : ByteArray), .string (⟨#[116, 97, 98]⟩ : ByteArray), .string (⟨#[113, 117, 111, 116, 101]⟩ : ByteArray), .string (⟨#[101, 115, 99, 97, 112, 101]⟩ : ByteArray), .string (⟨#[109, 105, 120, 101, 100]⟩ : ByteArray), .string (⟨#[105, 110, 100, 101, 110, 116]⟩ : ByteArray), .string (⟨#[115, 101, 99, 111, 110, 100]⟩ : ByteArray), .string (⟨#[115, 116, 114, 97, 121]⟩ : ByteArray), .string (⟨#[111, 112, 101, 110]⟩ : ByteArray), .string (⟨#[100, 101, 101, 112]⟩ : ByteArray), .string (⟨#[97, 108, 105, 97, 115]⟩ : ByteArray)]) (ok := fun _ => True) (okp := fun _ => True) ?hr ?hp (fun _ hk => hk) trivial (Below.refl _ _) (Nat.le_refl _) (by simp) ?_; (case hd => rfl); (case hg => rfl); (case hr => first | (go_simp; done) | (go_simp; rfl)); (case hp => exact (Reps.one (show Kd.M Kd.string _ _ _ (⟨#[119, 104, 97, 116]⟩ : ByteArray) [.string (⟨#[119, 104, 97, 116]⟩ : ByteArray)] from rfl) (Reps.one (show Kd.M Kd.string _ _ _ (⟨#[98, 121, 116, 101]⟩ : ByteArray) [.string (⟨#[98, 121, 116, 101]⟩ : ByteArray)] from rfl) (Reps.one (show Kd.M Kd.string _ _ _ (⟨#[116, 97, 98]⟩ : ByteArray) [.string (⟨#[116, 97, 98]⟩ : ByteArray)] from rfl) (Reps.one (show Kd.M Kd.string _ _ _ (⟨#[113, 117, 111, 116, 101]⟩ : ByteArray) [.string (⟨#[113, 117, 111, 116, 101]⟩ : ByteArray)] from rfl) (Reps.one (show Kd.M Kd.string _ _ _ (⟨#[101, 115, 99, 97, 112, 101]⟩ : ByteArray) [.string (⟨#[101, 115, 99, 97, 112, 101]⟩ : ByteArray)] from rfl) (Reps.one (show Kd.M Kd.string _ _ _ (⟨#[109, 105, 120, 101, 100]⟩ : ByteArray) [.string (⟨#[109, 105, 120, 101, 100]⟩ : ByteArray)] from rfl) (Reps.one (show Kd.M Kd.string _ _ _ (⟨#[105, 110, 100, 101, 110, 116]⟩ : ByteArray) [.string (⟨#[105, 110, 100, 101, 110, 116]⟩ : ByteArray)] from rfl) (Reps.one (show Kd.M Kd.string _ _ _ (⟨#[115, 101, 99, 111, 110, 100]⟩ : ByteArray) [.string (⟨#[115, 101, 99, 111, 110, 100]⟩ : ByteArray)] from rfl) (Reps.one (show Kd.M Kd.string _ _ _ (⟨#[115, 116, 114, 97, 121]⟩ : ByteArray) [.string (⟨#[115, 116, 114, 97, 121]⟩ : ByteArray)] from rfl) (Reps.one (show Kd.M Kd.string _ _ _ (⟨#[111, 112, 101, 110]⟩ : ByteArray) [.string (⟨#[111, 112, 101, 110]⟩ : ByteArray)] from rfl) (Reps.one (show Kd.M Kd.string _ _ _ (⟨#[100, 101, 101, 112]⟩ : ByteArray) [.string (⟨#[100, 101, 101, 112]⟩ : ByteArray)] from rfl) (Reps.one (show Kd.M Kd.string _ _ _ (⟨#[97, 108, 105, 97, 115]⟩ : ByteArray) [.string (⟨#[97, 108, 105, 97, 115]⟩ : ByteArray)] from rfl) (Reps.none _ _)))))))))))))); intro v102 w4 ho5 hb hg_ hnew_; clear hg_ hnew_; (first | rw [← Ny101.out] at ho5 | (simp only [Int.reduceToNat] at ho5; rw [← Ny101.out] at ho5)); have n0_ := Aside0.mk (Kd.R_lower ho5 (below_size (by repeat (first | (with_reducible first | exact HB.out | apply below_alloc | apply pw_below_drewN | apply below_drew1) | exact HB.out)))); have n1_ := Aside0.mk (below_step (by repeat (first | (with_reducible first | exact HB.out | apply below_alloc | apply pw_below_drewN | apply below_drew1) | exact HB.out)) hb); clear HB; have HO103 := n0_; have HB := n1_; clear n0_ n1_; clear hb ho5; obtain ⟨Ao6, co6, eo6⟩ := Kd.R_slice HO103.out; subst eo6; have p104 : 0 ≤ (0 : Int) := (by omega); have q104 : 0 < (y101.length : Int) := of_decide_eq_true (by first | (with_reducible assumption) | assumption); obtain ⟨ad104, e104, hx104_0⟩ := Kd.at_string (Kd.R_reads' HO103.out).2.2 0 p104 q104; cases e104; have qi104 : (0 < y101.length) = True := eq_true (by omega); (try rw [show ((0 : Int)).toNat = 0 from rfl] at hx104_0); (try rw [Addr.add_zero'] at hx104_0); replace p104 := eq_true p104; replace q104 := eq_true q104))
      go_ret
      exact ⟨by first | rfl | (simp [errW_none, errW_some] <;> rfl) | (simp [*, errW_none, errW_some] <;> rfl), by repeat (first | (with_reducible first | exact HB.out | apply below_alloc | apply pw_below_drewN | apply below_drew1) | exact HB.out)⟩
    · rw [if_neg c3] at H
      exact absurd H (by simp)
  · rw [if_neg c2] at H
    have c2b0 : decide (a0 < 1) = false := decide_eq_false c2
    clear c2
    by_cases c7 : a0 ≥ (y101.length : Int)
    · rw [if_pos c7] at H
      have c7b0 : decide ((y101.length : Int) ≤ a0) = true := decide_eq_true c7
      clear c7
      by_cases c8 : 0 < (y101.length : Int)
      · rw [if_pos c8] at H
        have c8b0 : decide (0 < (y101.length : Int)) = true := decide_eq_true c8
        have c8b1 : decide (0 < y101.length) = true := decide_eq_true (by omega)
        clear c8
        obtain rfl := Option.some.inj H
        go_enter Tryd.func7, Tryd.ntmps7
        go_wp2_with (first | ((with_reducible refine gate_dst (N := 4) rfl ?_); (try (refine gate_guard (by rfl) ?_; dsimp only)); refine Kd.R_lit Kd.string _ 9 ?hg (N := 4) ?hd (xs := ([(⟨#[119, 104, 97, 116]⟩ : ByteArray), (⟨#[98, 121, 116, 101]⟩ : ByteArray), (⟨#[116, 97, 98]⟩ : ByteArray), (⟨#[113, 117, 111, 116, 101]⟩ : ByteArray), (⟨#[101, 115, 99, 97, 112, 101]⟩ : ByteArray), (⟨#[109, 105, 120, 101, 100]⟩ : ByteArray), (⟨#[105, 110, 100, 101, 110, 116]⟩ : ByteArray), (⟨#[115, 101, 99, 111, 110, 100]⟩ : ByteArray), (⟨#[115, 116, 114, 97, 121]⟩ : ByteArray), (⟨#[111, 112, 101, 110]⟩ : ByteArray), (⟨#[100, 101, 101, 112]⟩ : ByteArray), (⟨#[97, 108, 105, 97, 115]⟩ : ByteArray)] : List ByteArray)) (inner := [.string (⟨#[119, 104, 97, 116]⟩ : ByteArray), .string (⟨#[98, 121, 116, 101]⟩ : ByteArray), .string (⟨#[116, 97, 98]⟩ : ByteArray), .string (⟨#[113, 117, 111, 116, 101]⟩ : ByteArray), .string (⟨#[101, 115, 99, 97, 112, 101]⟩ : ByteArray), .string (⟨#[109, 105, 120, 101, 100]⟩ : ByteArray), .string (⟨#[105, 110, 100, 101, 110, 116]⟩ : ByteArray), .string (⟨#[115, 101, 99, 111, 110, 100]⟩ : ByteArray), .string (⟨#[115, 116, 114, 97, 121]⟩ : ByteArray), .string (⟨#[111, 112, 101, 110]⟩ : ByteArray), .string (⟨#[100, 101, 101, 112]⟩ : ByteArray), .string (⟨#[97, 108, 105, 97, 115]⟩ : ByteArray)]) (ok := fun _ => True) (okp := fun _ => True) ?hr ?hp (fun _ hk => hk) trivial (Below.refl _ _) (Nat.le_refl _) (by simp) ?_; (case hd => rfl); (case hg => rfl); (case hr => first | (go_simp; done) | (go_simp; rfl)); (case hp => exact (Reps.one (show Kd.M Kd.string _ _ _ (⟨#[119, 104, 97, 116]⟩ : ByteArray) [.string (⟨#[119, 104, 97, 116]⟩ : ByteArray)] from rfl) (Reps.one (show Kd.M Kd.string _ _ _ (⟨#[98, 121, 116, 101]⟩ : ByteArray) [.string (⟨#[98, 121, 116, 101]⟩ : ByteArray)] from rfl) (Reps.one (show Kd.M Kd.string _ _ _ (⟨#[116, 97, 98]⟩ : ByteArray) [.string (⟨#[116, 97, 98]⟩ : ByteArray)] from rfl) (Reps.one (show Kd.M Kd.string _ _ _ (⟨#[113, 117, 111, 116, 101]⟩ : ByteArray) [.string (⟨#[113, 117, 111, 116, 101]⟩ : ByteArray)] from rfl) (Reps.one (show Kd.M Kd.string _ _ _ (⟨#[101, 115, 99, 97, 112, 101]⟩ : ByteArray) [.string (⟨#[101, 115, 99, 97, 112, 101]⟩ : ByteArray)] from rfl) (Reps.one (show Kd.M Kd.string _ _ _ (⟨#[109, 105, 120, 101, 100]⟩ : ByteArray) [.string (⟨#[109, 105, 120, 101, 100]⟩ : ByteArray)] from rfl) (Reps.one (show Kd.M Kd.string _ _ _ (⟨#[105, 110, 100, 101, 110, 116]⟩ : ByteArray) [.string (⟨#[105, 110, 100, 101, 110, 116]⟩ : ByteArray)] from rfl) (Reps.one (show Kd.M Kd.string _ _ _ (⟨#[115, 101, 99, 111, 110, 100]⟩ : ByteArray) [.string (⟨#[115, 101, 99, 111, 110, 100]⟩ : ByteArray)] from rfl) (Reps.one (show Kd.M Kd.string _ _ _ (⟨#[115, 116, 114, 97, 121]⟩ : ByteArray) [.string (⟨#[115, 116, 114, 97, 121]⟩ : ByteArray)] from rfl) (Reps.one (show Kd.M Kd.string _ _ _ (⟨#[111, 112, 101, 110]⟩ : ByteArray) [.string (⟨#[111, 112, 101, 110]⟩ : ByteArray)] from rfl) (Reps.one (show Kd.M Kd.string _ _ _ (⟨#[100, 101, 101, 112]⟩ : ByteArray) [.string (⟨#[100, 101, 101, 112]⟩ : ByteArray)] from rfl) (Reps.one (show Kd.M Kd.string _ _ _ (⟨#[97, 108, 105, 97, 115]⟩ : ByteArray) [.string (⟨#[97, 108, 105, 97, 115]⟩ : ByteArray)] from rfl) (Reps.none _ _)))))))))))))); intro v102 w9 ho10 hb hg_ hnew_; clear hg_ hnew_; (first | rw [← Ny101.out] at ho10 | (simp only [Int.reduceToNat] at ho10; rw [← Ny101.out] at ho10)); have n0_ := Aside0.mk (Kd.R_lower ho10 (below_size (by repeat (first | (with_reducible first | exact HB.out | apply below_alloc | apply pw_below_drewN | apply below_drew1) | exact HB.out)))); have n1_ := Aside0.mk (below_step (by repeat (first | (with_reducible first | exact HB.out | apply below_alloc | apply pw_below_drewN | apply below_drew1) | exact HB.out)) hb); clear HB; have HO103 := n0_; have HB := n1_; clear n0_ n1_; clear hb ho10; obtain ⟨Ao11, co11, eo11⟩ := Kd.R_slice HO103.out; subst eo11; have p105 : 0 ≤ (0 : Int) := (by omega); have q105 : 0 < (y101.length : Int) := of_decide_eq_true (by first | (with_reducible assumption) | assumption); obtain ⟨ad105, e105, hx105_0⟩ := Kd.at_string (Kd.R_reads' HO103.out).2.2 0 p105 q105; cases e105; have qi105 : (0 < y101.length) = True := eq_true (by omega); (try rw [show ((0 : Int)).toNat = 0 from rfl] at hx105_0); (try rw [Addr.add_zero'] at hx105_0); replace p105 := eq_true p105; replace q105 := eq_true q105))
        go_ret
        exact ⟨by first | rfl | (simp [errW_none, errW_some] <;> rfl) | (simp [*, errW_none, errW_some] <;> rfl), by repeat (first | (with_reducible first | exact HB.out | apply below_alloc | apply pw_below_drewN | apply below_drew1) | exact HB.out)⟩
      · rw [if_neg c8] at H
        exact absurd H (by simp)
    · rw [if_neg c7] at H
      have c7b0 : decide ((y101.length : Int) ≤ a0) = false := decide_eq_false c7
      clear c7
      by_cases c12 : 0 ≤ a0
      · rw [if_pos c12] at H
        have c12b0 : decide (0 ≤ a0) = true := decide_eq_true c12
        clear c12
        by_cases c13 : a0 < (y101.length : Int)
        · rw [if_pos c13] at H
          have c13b0 : decide (a0 < (y101.length : Int)) = true := decide_eq_true c13
          clear c13
          obtain rfl := Option.some.inj H
          go_enter Tryd.func7, Tryd.ntmps7
          go_wp2_with (first | ((with_reducible refine gate_dst (N := 4) rfl ?_); (try (refine gate_guard (by rfl) ?_; dsimp only)); refine Kd.R_lit Kd.string _ 9 ?hg (N := 4) ?hd (xs := ([(⟨#[119, 104, 97, 116]⟩ : ByteArray), (⟨#[98, 121, 116, 101]⟩ : ByteArray), (⟨#[116, 97, 98]⟩ : ByteArray), (⟨#[113, 117, 111, 116, 101]⟩ : ByteArray), (⟨#[101, 115, 99, 97, 112, 101]⟩ : ByteArray), (⟨#[109, 105, 120, 101, 100]⟩ : ByteArray), (⟨#[105, 110, 100, 101, 110, 116]⟩ : ByteArray), (⟨#[115, 101, 99, 111, 110, 100]⟩ : ByteArray), (⟨#[115, 116, 114, 97, 121]⟩ : ByteArray), (⟨#[111, 112, 101, 110]⟩ : ByteArray), (⟨#[100, 101, 101, 112]⟩ : ByteArray), (⟨#[97, 108, 105, 97, 115]⟩ : ByteArray)] : List ByteArray)) (inner := [.string (⟨#[119, 104, 97, 116]⟩ : ByteArray), .string (⟨#[98, 121, 116, 101]⟩ : ByteArray), .string (⟨#[116, 97, 98]⟩ : ByteArray), .string (⟨#[113, 117, 111, 116, 101]⟩ : ByteArray), .string (⟨#[101, 115, 99, 97, 112, 101]⟩ : ByteArray), .string (⟨#[109, 105, 120, 101, 100]⟩ : ByteArray), .string (⟨#[105, 110, 100, 101, 110, 116]⟩ : ByteArray), .string (⟨#[115, 101, 99, 111, 110, 100]⟩ : ByteArray), .string (⟨#[115, 116, 114, 97, 121]⟩ : ByteArray), .string (⟨#[111, 112, 101, 110]⟩ : ByteArray), .string (⟨#[100, 101, 101, 112]⟩ : ByteArray), .string (⟨#[97, 108, 105, 97, 115]⟩ : ByteArray)]) (ok := fun _ => True) (okp := fun _ => True) ?hr ?hp (fun _ hk => hk) trivial (Below.refl _ _) (Nat.le_refl _) (by simp) ?_; (case hd => rfl); (case hg => rfl); (case hr => first | (go_simp; done) | (go_simp; rfl)); (case hp => exact (Reps.one (show Kd.M Kd.string _ _ _ (⟨#[119, 104, 97, 116]⟩ : ByteArray) [.string (⟨#[119, 104, 97, 116]⟩ : ByteArray)] from rfl) (Reps.one (show Kd.M Kd.string _ _ _ (⟨#[98, 121, 116, 101]⟩ : ByteArray) [.string (⟨#[98, 121, 116, 101]⟩ : ByteArray)] from rfl) (Reps.one (show Kd.M Kd.string _ _ _ (⟨#[116, 97, 98]⟩ : ByteArray) [.string (⟨#[116, 97, 98]⟩ : ByteArray)] from rfl) (Reps.one (show Kd.M Kd.string _ _ _ (⟨#[113, 117, 111, 116, 101]⟩ : ByteArray) [.string (⟨#[113, 117, 111, 116, 101]⟩ : ByteArray)] from rfl) (Reps.one (show Kd.M Kd.string _ _ _ (⟨#[101, 115, 99, 97, 112, 101]⟩ : ByteArray) [.string (⟨#[101, 115, 99, 97, 112, 101]⟩ : ByteArray)] from rfl) (Reps.one (show Kd.M Kd.string _ _ _ (⟨#[109, 105, 120, 101, 100]⟩ : ByteArray) [.string (⟨#[109, 105, 120, 101, 100]⟩ : ByteArray)] from rfl) (Reps.one (show Kd.M Kd.string _ _ _ (⟨#[105, 110, 100, 101, 110, 116]⟩ : ByteArray) [.string (⟨#[105, 110, 100, 101, 110, 116]⟩ : ByteArray)] from rfl) (Reps.one (show Kd.M Kd.string _ _ _ (⟨#[115, 101, 99, 111, 110, 100]⟩ : ByteArray) [.string (⟨#[115, 101, 99, 111, 110, 100]⟩ : ByteArray)] from rfl) (Reps.one (show Kd.M Kd.string _ _ _ (⟨#[115, 116, 114, 97, 121]⟩ : ByteArray) [.string (⟨#[115, 116, 114, 97, 121]⟩ : ByteArray)] from rfl) (Reps.one (show Kd.M Kd.string _ _ _ (⟨#[111, 112, 101, 110]⟩ : ByteArray) [.string (⟨#[111, 112, 101, 110]⟩ : ByteArray)] from rfl) (Reps.one (show Kd.M Kd.string _ _ _ (⟨#[100, 101, 101, 112]⟩ : ByteArray) [.string (⟨#[100, 101, 101, 112]⟩ : ByteArray)] from rfl) (Reps.one (show Kd.M Kd.string _ _ _ (⟨#[97, 108, 105, 97, 115]⟩ : ByteArray) [.string (⟨#[97, 108, 105, 97, 115]⟩ : ByteArray)] from rfl) (Reps.none _ _)))))))))))))); intro v102 w14 ho15 hb hg_ hnew_; clear hg_ hnew_; (first | rw [← Ny101.out] at ho15 | (simp only [Int.reduceToNat] at ho15; rw [← Ny101.out] at ho15)); have n0_ := Aside0.mk (Kd.R_lower ho15 (below_size (by repeat (first | (with_reducible first | exact HB.out | apply below_alloc | apply pw_below_drewN | apply below_drew1) | exact HB.out)))); have n1_ := Aside0.mk (below_step (by repeat (first | (with_reducible first | exact HB.out | apply below_alloc | apply pw_below_drewN | apply below_drew1) | exact HB.out)) hb); clear HB; have HO103 := n0_; have HB := n1_; clear n0_ n1_; clear hb ho15; obtain ⟨Ao16, co16, eo16⟩ := Kd.R_slice HO103.out; subst eo16; have p106 : 0 ≤ (a0 : Int) := of_decide_eq_true (by first | (with_reducible assumption) | assumption); have q106 : a0 < (y101.length : Int) := of_decide_eq_true (by first | (with_reducible assumption) | assumption); obtain ⟨ad106, e106, hx106_0⟩ := Kd.at_string (Kd.R_reads' HO103.out).2.2 a0 p106 q106; cases e106; replace p106 := eq_true p106; replace q106 := eq_true q106))
          go_ret
          exact ⟨by first | rfl | (simp [errW_none, errW_some] <;> rfl) | (simp [*, errW_none, errW_some] <;> rfl), by repeat (first | (with_reducible first | exact HB.out | apply below_alloc | apply pw_below_drewN | apply below_drew1) | exact HB.out)⟩
        · rw [if_neg c13] at H
          exact absurd H (by simp)
      · rw [if_neg c12] at H
        exact absurd H (by simp)

/-! ### correctorref2_Break: function 25 -/
def correctorref2_Break.j0 : Nat → List Int → Int → Bool → Option (Int)
  | 0, _, _, _ => none
  | k + 1, x0, x1, x28 => if x28 = true then (some 2) else (if 0 ≤ x1 then (if x1 < (x0.length : Int) then (if (rd x0 x1) = 13 then (some 1) else (if (rd x0 x1) = 10 then (some 1) else (some 0))) else (none)) else (none))
def correctorref2_Break.f (k : Nat) (l0 : List Int) (a1 : Int) : Option (Int) := if a1 ≥ (l0.length : Int) then (some 0) else (if 0 ≤ a1 then (if a1 < (l0.length : Int) then (if (rd l0 a1) = 13 then (if (wrap64 (a1 + 1)) < (l0.length : Int) then (if 0 ≤ (wrap64 (a1 + 1)) then (correctorref2_Break.j0 k l0 a1 ((rd l0 (wrap64 (a1 + 1))) == 10)) else (none)) else (correctorref2_Break.j0 k l0 a1 false)) else (correctorref2_Break.j0 k l0 a1 false)) else (none)) else (none))
theorem correctorref2_Break.mono_l : ∀ k, (∀ y0 y1 y2, LeO (correctorref2_Break.j0 k y0 y1 y2) (correctorref2_Break.j0 (k + 1) y0 y1 y2))
  | 0 => fun _ _ _ r h => by simp [correctorref2_Break.j0] at h
  | k + 1 => by
    have ih0 := correctorref2_Break.mono_l k
    · intro y0 y1 y2
      unfold correctorref2_Break.j0
      repeat' first
      | (with_reducible exact ih0 _ _ _)
      | (with_reducible exact LeO.refl _)
      | (with_reducible exact LeO.none _)
      | (with_reducible refine LeO.ite ?_ ?_)
      | (with_reducible refine LeO.bind ?_ (fun _ => ?_))
      | exact ih0 _ _ _
      | exact LeO.none _
      | refine LeO.ite ?_ ?_
      | refine LeO.bind ?_ (fun _ => ?_)
theorem correctorref2_Break.mono : ∀ a0 a1 k, LeO (correctorref2_Break.f k a0 a1) (correctorref2_Break.f (k + 1) a0 a1) := by
  intro a0 a1 k
  have ih0 := correctorref2_Break.mono_l k
  unfold correctorref2_Break.f
  repeat' first
      | (with_reducible exact ih0 _ _ _)
      | (with_reducible exact LeO.refl _)
      | (with_reducible exact LeO.none _)
      | (with_reducible refine LeO.ite ?_ ?_)
      | (with_reducible refine LeO.bind ?_ (fun _ => ?_))
      | exact ih0 _ _ _
      | exact LeO.none _
      | refine LeO.ite ?_ ?_
      | refine LeO.bind ?_ (fun _ => ?_)
set_option maxHeartbeats 8000000 in
set_option maxRecDepth 100000 in
theorem correctorref2_Break.calls (k : Nat) (A0 : Option Addr) (c0 : Nat) (l0 : List Int) (a1 : Int) (r : Int) (w : World) (hr0 : Kd.C (Kd.int .u8) w A0 l0.length l0) (hc0 : l0.length ≤ c0) (h : correctorref2_Break.f k l0 a1 = some r) :
    Calls Tryd.prog 25 #[.slice A0 l0.length c0, .int .i64 a1] w fun e w' => e = .returned (.int .i64 r) ∧ Drawn0 w w' := by
  have HR0 := Aside0.mk hr0
  have HC0 := Aside0.mk hc0
  clear hr0 hc0
  have H : (if a1 ≥ (l0.length : Int) then (some 0) else (if 0 ≤ a1 then (if a1 < (l0.length : Int) then (if (rd l0 a1) = 13 then (if (wrap64 (a1 + 1)) < (l0.length : Int) then (if 0 ≤ (wrap64 (a1 + 1)) then (correctorref2_Break.j0 k l0 a1 ((rd l0 (wrap64 (a1 + 1))) == 10)) else (none)) else (correctorref2_Break.j0 k l0 a1 false)) else (correctorref2_Break.j0 k l0 a1 false)) else (none)) else (none))) = some r := h
  clear h
  by_cases c3 : a1 ≥ (l0.length : Int)
  · rw [if_pos c3] at H
    have c3b0 : decide ((l0.length : Int) ≤ a1) = true := decide_eq_true c3
    clear c3
    obtain rfl := Option.some.inj H
    go_enter Tryd.func25, Tryd.ntmps25
    go_wp2
    go_ret
    exact ⟨by first | rfl | (simp; done) | (simp [*]; done), by repeat (first | exact Drawn0.refl _ | apply Drawn0.step)⟩
  · rw [if_neg c3] at H
    have c3b0 : decide ((l0.length : Int) ≤ a1) = false := decide_eq_false c3
    clear c3
    have HC4 := Aside0.mk H
    clear H
    go_enter Tryd.func25, Tryd.ntmps25
    go_upto_region 3 with (fail)
    go_cut [28] (fun v28 wc => ∃ (kq : Nat) (x28_3 : Bool), v28 = .bool x28_3 ∧ Aside0 (correctorref2_Break.j0 kq l0 a1 x28_3 = some r) ∧ Aside0 (kq ≤ k) ∧ Drawn0 w wc)
    case first =>
      have H := HC4.out
      clear HC4
      by_cases c5 : 0 ≤ a1
      · rw [if_pos c5] at H
        have c5b0 : decide (0 ≤ a1) = true := decide_eq_true c5
        clear c5
        (first | rw [c5b0] | (simp only [i64_w, i32_w]; rw [c5b0]) | skip)
        by_cases c6 : a1 < (l0.length : Int)
        · rw [if_pos c6] at H
          have c6b0 : decide (a1 < (l0.length : Int)) = true := decide_eq_true c6
          clear c6
          by_cases c7 : (rd l0 a1) = 13
          · rw [if_pos c7] at H
            have c7b0 : ((rd l0 a1) == 13) = true := beq_iff_eq.mpr c7
            have c7b1 : ((rd l0 a1) != 13) = false := bne_eq_false_iff_eq.mpr c7
            clear c7
            by_cases c8 : (wrap64 (a1 + 1)) < (l0.length : Int)
            · rw [if_pos c8] at H
              have c8b0 : decide ((wrap64 (a1 + 1)) < (l0.length : Int)) = true := decide_eq_true c8
              clear c8
              obtain ⟨ji9, hji9⟩ : ∃ j_ : Int, (wrap64 (a1 + 1)) = j_ := ⟨_, rfl⟩
              replace H : (if 0 ≤ (ji9) then (correctorref2_Break.j0 k l0 a1 ((rd l0 (ji9)) == 10)) else (none)) = some r := by first | (rw [hji9] at H; exact H) | (simp only [hji9] at H ⊢; exact H)
              (try rw [hji9] at c8b0)
              have hji9w : (IntKind.i64.wrap (a1 + 1)) = ji9 := (i64_w _).trans hji9
              by_cases c10 : 0 ≤ (ji9)
              · rw [if_pos c10] at H
                have c10b0 : decide (0 ≤ (ji9)) = true := decide_eq_true c10
                clear c10
                have H' := Aside0.mk H
                clear H
                have p107 : 0 ≤ (a1 : Int) := of_decide_eq_true (by first | (with_reducible assumption) | assumption)
                have q107 : a1 < (l0.length : Int) := of_decide_eq_true (by first | (with_reducible assumption) | assumption)
                obtain ⟨ad107, e107, hx107_0⟩ := Kd.at_int HR0.out a1 p107 q107
                cases e107
                replace p107 := eq_true p107
                replace q107 := eq_true q107
                have p108 : 0 ≤ ((ji9) : Int) := of_decide_eq_true (by first | (with_reducible assumption) | assumption)
                have q108 : (ji9) < (l0.length : Int) := of_decide_eq_true (by first | (with_reducible assumption) | assumption)
                obtain ⟨ad108, e108, hx108_0⟩ := Kd.at_int HR0.out (ji9) p108 q108
                obtain rfl : ad107 = ad108 := (by injection e108)
                replace p108 := eq_true p108
                replace q108 := eq_true q108
                go_wp2
                go_meet
                case rel => exact ⟨_, (((rd l0 (ji9)) == 10)), (by first | rfl | (simp; done) | (simp only [← hji9] <;> (first | rfl | simp)) | (simp [*]; done)), H', ⟨by first | omega | exact Nat.le_refl _⟩, by repeat (first | exact Drawn0.refl _ | apply Drawn0.step)⟩
              · rw [if_neg c10] at H
                exact absurd H (by simp)
            · rw [if_neg c8] at H
              have c8b0 : decide ((wrap64 (a1 + 1)) < (l0.length : Int)) = false := decide_eq_false c8
              clear c8
              have H' := Aside0.mk H
              clear H
              have p107 : 0 ≤ (a1 : Int) := of_decide_eq_true (by first | (with_reducible assumption) | assumption)
              have q107 : a1 < (l0.length : Int) := of_decide_eq_true (by first | (with_reducible assumption) | assumption)
              obtain ⟨ad107, e107, hx107_0⟩ := Kd.at_int HR0.out a1 p107 q107
              cases e107
              replace p107 := eq_true p107
              replace q107 := eq_true q107
              go_wp2
              go_meet
              case rel => exact ⟨_, (false), (by first | rfl | (simp; done) | (simp [*]; done)), H', ⟨by first | omega | exact Nat.le_refl _⟩, by repeat (first | exact Drawn0.refl _ | apply Drawn0.step)⟩
          · rw [if_neg c7] at H
            have c7b0 : ((rd l0 a1) == 13) = false := beq_eq_false_iff_ne.mpr c7
            have c7b1 : ((rd l0 a1) != 13) = true := bne_iff_ne.mpr c7
            have H' := Aside0.mk H
            clear H
            have p107 : 0 ≤ (a1 : Int) := of_decide_eq_true (by first | (with_reducible assumption) | assumption)
            have q107 : a1 < (l0.length : Int) := of_decide_eq_true (by first | (with_reducible assumption) | assumption)
            obtain ⟨ad107, e107, hx107_0⟩ := Kd.at_int HR0.out a1 p107 q107
            cases e107
            replace p107 := eq_true p107
            replace q107 := eq_true q107
            go_wp2
            go_meet
            case rel => exact ⟨_, (false), (by first | rfl | (simp; done) | (simp [*]; done)), H', ⟨by first | omega | exact Nat.le_refl _⟩, by repeat (first | exact Drawn0.refl _ | apply Drawn0.step)⟩
        · rw [if_neg c6] at H
          exact absurd H (by simp)
      · rw [if_neg c5] at H
        exact absurd H (by simp)
    case rest =>
      clear HC4
      try clear c1
      try clear p1
      try clear q1
      try clear hx1
      try clear c2
      try clear p2
      try clear c3
      try clear c3b0
      try clear c5
      try clear c5b0
      try clear c6
      try clear c6b0
      try clear p6
      try clear c7
      try clear c7b0
      try clear c7b1
      try clear c8
      try clear c8b0
      try clear c10
      try clear c10b0
      try clear p10
      try clear q10
      try clear hx10
      try clear hx107_0
      try clear hx108_0
      try clear p107
      try clear p108
      try clear q107
      try clear q108
      obtain ⟨kq, x28_3, rfl, HA, HJ3, ⟨mc3, rfl⟩⟩ := hcut
      cases kq with
      | zero => exact absurd HA.out (by simp [correctorref2_Break.j0])
      | succ kj3 =>
        have H := HA.out
        clear HA
        simp only [correctorref2_Break.j0] at H
        by_cases c11 : x28_3 = true
        · subst c11
          have H1 : (some 2) = some r := by rw [if_pos rfl] at H; exact H
          clear H
          have H := H1
          clear H1
          obtain rfl := Option.some.inj H
          go_wp2
          go_ret
          exact ⟨by first | rfl | (simp; done) | (simp [*]; done), by repeat (first | exact Drawn0.refl _ | apply Drawn0.step)⟩
        · replace c11 := Bool.eq_false_iff.mpr c11
          subst c11
          have H1 : (if 0 ≤ a1 then (if a1 < (l0.length : Int) then (if (rd l0 a1) = 13 then (some 1) else (if (rd l0 a1) = 10 then (some 1) else (some 0))) else (none)) else (none)) = some r := by rw [if_neg (show ¬ (false = true) by decide)] at H; exact H
          clear H
          have H := H1
          clear H1
          by_cases c12 : 0 ≤ a1
          · rw [if_pos c12] at H
            have c12b0 : decide (0 ≤ a1) = true := decide_eq_true c12
            clear c12
            by_cases c13 : a1 < (l0.length : Int)
            · rw [if_pos c13] at H
              have c13b0 : decide (a1 < (l0.length : Int)) = true := decide_eq_true c13
              clear c13
              by_cases c14 : (rd l0 a1) = 13
              · rw [if_pos c14] at H
                have c14b0 : ((rd l0 a1) == 13) = true := beq_iff_eq.mpr c14
                have c14b1 : ((rd l0 a1) != 13) = false := bne_eq_false_iff_eq.mpr c14
                clear c14
                obtain rfl := Option.some.inj H
                have p109 : 0 ≤ (a1 : Int) := of_decide_eq_true (by first | (with_reducible assumption) | assumption)
                have q109 : a1 < (l0.length : Int) := of_decide_eq_true (by first | (with_reducible assumption) | assumption)
                obtain ⟨ad109, e109, hx109_0⟩ := Kd.at_int HR0.out a1 p109 q109
                cases e109
                replace p109 := eq_true p109
                replace q109 := eq_true q109
                go_wp2
                go_ret
                exact ⟨by first | rfl | (simp; done) | (simp [*]; done), by repeat (first | exact Drawn0.refl _ | apply Drawn0.step)⟩
              · rw [if_neg c14] at H
                have c14b0 : ((rd l0 a1) == 13) = false := beq_eq_false_iff_ne.mpr c14
                have c14b1 : ((rd l0 a1) != 13) = true := bne_iff_ne.mpr c14
                by_cases c15 : (rd l0 a1) = 10
                · rw [if_pos c15] at H
                  have c15b0 : ((rd l0 a1) == 10) = true := beq_iff_eq.mpr c15
                  have c15b1 : ((rd l0 a1) != 10) = false := bne_eq_false_iff_eq.mpr c15
                  clear c15
                  obtain rfl := Option.some.inj H
                  have p109 : 0 ≤ (a1 : Int) := of_decide_eq_true (by first | (with_reducible assumption) | assumption)
                  have q109 : a1 < (l0.length : Int) := of_decide_eq_true (by first | (with_reducible assumption) | assumption)
                  obtain ⟨ad109, e109, hx109_0⟩ := Kd.at_int HR0.out a1 p109 q109
                  cases e109
                  replace p109 := eq_true p109
                  replace q109 := eq_true q109
                  have p110 : 0 ≤ (a1 : Int) := of_decide_eq_true (by first | (with_reducible assumption) | assumption)
                  have q110 : a1 < (l0.length : Int) := of_decide_eq_true (by first | (with_reducible assumption) | assumption)
                  obtain ⟨ad110, e110, hx110_0⟩ := Kd.at_int HR0.out a1 p110 q110
                  obtain rfl : ad109 = ad110 := (by injection e110)
                  replace p110 := eq_true p110
                  replace q110 := eq_true q110
                  go_wp2
                  go_ret
                  exact ⟨by first | rfl | (simp; done) | (simp [*]; done), by repeat (first | exact Drawn0.refl _ | apply Drawn0.step)⟩
                · rw [if_neg c15] at H
                  have c15b0 : ((rd l0 a1) == 10) = false := beq_eq_false_iff_ne.mpr c15
                  have c15b1 : ((rd l0 a1) != 10) = true := bne_iff_ne.mpr c15
                  obtain rfl := Option.some.inj H
                  have p109 : 0 ≤ (a1 : Int) := of_decide_eq_true (by first | (with_reducible assumption) | assumption)
                  have q109 : a1 < (l0.length : Int) := of_decide_eq_true (by first | (with_reducible assumption) | assumption)
                  obtain ⟨ad109, e109, hx109_0⟩ := Kd.at_int HR0.out a1 p109 q109
                  cases e109
                  replace p109 := eq_true p109
                  replace q109 := eq_true q109
                  have p110 : 0 ≤ (a1 : Int) := of_decide_eq_true (by first | (with_reducible assumption) | assumption)
                  have q110 : a1 < (l0.length : Int) := of_decide_eq_true (by first | (with_reducible assumption) | assumption)
                  obtain ⟨ad110, e110, hx110_0⟩ := Kd.at_int HR0.out a1 p110 q110
                  obtain rfl : ad109 = ad110 := (by injection e110)
                  replace p110 := eq_true p110
                  replace q110 := eq_true q110
                  go_wp2
                  go_ret
                  exact ⟨by first | rfl | (simp; done) | (simp [*]; done), by repeat (first | exact Drawn0.refl _ | apply Drawn0.step)⟩
            · rw [if_neg c13] at H
              exact absurd H (by simp)
          · rw [if_neg c12] at H
            exact absurd H (by simp)

/-! ### correctorref2_Starts: function 20 -/
def correctorref2_Starts.l0 : Nat → List Int → List Int → Int → Option (List Int)
  | 0, _, _, _ => none
  | k + 1, x0, x3, x4 => if x4 < (x0.length : Int) then ((correctorref2_Break.f k x0 x4).bind fun t114 => (if t114 > 0 then (if x3.length < 17592186044416 then (correctorref2_Starts.l0 k x0 (x3 ++ [wrap64 (x4 + (mx t114 1))]) (wrap64 (x4 + (mx t114 1)))) else (none)) else (correctorref2_Starts.l0 k x0 x3 (wrap64 (x4 + (mx t114 1)))))) else (some x3)
def correctorref2_Starts.f (k : Nat) (l0 : List Int) : Option (List Int) := correctorref2_Starts.l0 k l0 (([0] : List Int)) 0
theorem correctorref2_Starts.mono_l : ∀ k, (∀ y0 y1 y2, LeO (correctorref2_Starts.l0 k y0 y1 y2) (correctorref2_Starts.l0 (k + 1) y0 y1 y2))
  | 0 => fun _ _ _ r h => by simp [correctorref2_Starts.l0] at h
  | k + 1 => by
    have ih0 := correctorref2_Starts.mono_l k
    · intro y0 y1 y2
      unfold correctorref2_Starts.l0
      repeat' first
      | (with_reducible exact ih0 _ _ _)
      | (with_reducible exact correctorref2_Break.mono _ _ _)
      | (with_reducible exact LeO.refl _)
      | (with_reducible exact LeO.none _)
      | (with_reducible refine LeO.ite ?_ ?_)
      | (with_reducible refine LeO.bind ?_ (fun _ => ?_))
      | exact ih0 _ _ _
      | exact correctorref2_Break.mono _ _ _
      | exact LeO.none _
      | refine LeO.ite ?_ ?_
      | refine LeO.bind ?_ (fun _ => ?_)
theorem correctorref2_Starts.mono : ∀ a0 k, LeO (correctorref2_Starts.f k a0) (correctorref2_Starts.f (k + 1) a0) := by
  intro a0 k
  have ih0 := correctorref2_Starts.mono_l k
  unfold correctorref2_Starts.f
  repeat' first
      | (with_reducible exact ih0 _ _ _)
      | (with_reducible exact correctorref2_Break.mono _ _ _)
      | (with_reducible exact LeO.refl _)
      | (with_reducible exact LeO.none _)
      | (with_reducible refine LeO.ite ?_ ?_)
      | (with_reducible refine LeO.bind ?_ (fun _ => ?_))
      | exact ih0 _ _ _
      | exact correctorref2_Break.mono _ _ _
      | exact LeO.none _
      | refine LeO.ite ?_ ?_
      | refine LeO.bind ?_ (fun _ => ?_)
set_option maxHeartbeats 8000000 in
set_option maxRecDepth 100000 in
theorem correctorref2_Starts.calls (k : Nat) (A0 : Option Addr) (c0 : Nat) (l0 : List Int) (r : List Int) (w : World) (hr0 : Kd.C (Kd.int .u8) w A0 l0.length l0) (hc0 : l0.length ≤ c0) (h : correctorref2_Starts.f k l0 = some r) :
    Calls Tryd.prog 20 #[.slice A0 l0.length c0] w fun e w' => ∃ v0_ : Value, e = .returned (v0_) ∧ Kd.R (Kd.int .i64) 3 w' w.heap.size (fun _ => True) v0_ r ∧ Below w.heap.size w w' := by
  have HR0 := Aside0.mk hr0
  have HC0 := Aside0.mk hc0
  clear hr0 hc0
  have HB := Aside0.mk (Below.refl w.heap.size w)
  have H : (correctorref2_Starts.l0 k l0 (([0] : List Int)) 0) = some r := h
  clear h
  obtain ⟨y111, hy111⟩ : ∃ y_ : List Int, y_ = (([0] : List Int)) := ⟨_, rfl⟩
  replace H : (correctorref2_Starts.l0 k l0 y111 0) = some r := by first | (rw [hy111]; with_reducible exact H) | (have H2_ := (Option.bind_some _ _).symm.trans H; rw [hy111]; with_reducible exact H2_) | (have H2_ := (Option.bind_some _ _).symm.trans H; with_reducible exact H2_) | with_reducible exact H | (rw [hy111]; exact H) | exact H
  have Ny111 := Aside0.mk hy111
  clear hy111
  have H' := Aside0.mk H
  clear H
  go_enter Tryd.func20, Tryd.ntmps20
  go_wp2_with (first | ((with_reducible refine gate_dst (N := 6) rfl ?_); refine Kd.R_lit (Kd.int .i64) _ 3 ?hg (N := 6) ?hd (xs := ([0] : List Int)) (inner := [.int .i64 0]) (ok := fun _ => True) (okp := fun _ => True) ?hr ?hp (fun _ hk => hk) trivial (Below.refl _ _) (Nat.le_refl _) (by simp) ?_; (case hd => rfl); (case hg => rfl); (case hr => first | (go_simp; done) | (go_simp; rfl)); (case hp => exact (Reps.one (show Kd.M (Kd.int .i64) _ _ _ 0 [.int .i64 0] from rfl) (Reps.none _ _))); intro v112 w2 ho3 hb hg_ hnew_; clear hg_ hnew_; (first | rw [← Ny111.out] at ho3 | (simp only [Int.reduceToNat] at ho3; rw [← Ny111.out] at ho3)); have n0_ := Aside0.mk (Kd.R_lower ho3 (below_size (by repeat (first | (with_reducible first | exact HB.out | apply below_alloc | apply pw_below_drewN | apply below_drew1) | exact HB.out)))); have n1_ := Aside0.mk (below_step (by repeat (first | (with_reducible first | exact HB.out | apply below_alloc | apply pw_below_drewN | apply below_drew1) | exact HB.out)) hb); clear HB; have HO113 := n0_; have HB := n1_; clear n0_ n1_; clear hb ho3))
  go_loopg [3, 4] k (fun kq v3 v4 w' => ∃ (x3_1 : List Int) (x4_1 : Int), v4 = .int .i64 x4_1 ∧ Aside0 (correctorref2_Starts.l0 kq l0 x3_1 x4_1 = some r) ∧ Aside0 (kq ≤ k) ∧ Aside0 (Kd.R (Kd.int .i64) 3 w' w.heap.size (fun _ => True) v3 x3_1) ∧ Aside0 (Below w.heap.size w w'))
  case atStart => exact ⟨(y111), (0), (by first | rfl | (simp; done) | (simp [*]; done)), H', ⟨Nat.le_refl _⟩, ⟨by (with_reducible repeat (first | apply Kd.R_alloc | apply Kd.R_drewN | apply Kd.R_drew)); exact HO113.out⟩, ⟨by repeat (first | (with_reducible first | exact HB.out | apply below_alloc | apply pw_below_drewN | apply below_drew1) | exact HB.out)⟩⟩
  case round =>
    clear H'
    try clear c2
    try clear p2
    obtain ⟨x3_1, x4_1, rfl, HA, HK1, HO_3, HB⟩ := hrel
    cases gk with
    | zero => exact absurd HA.out (by simp [correctorref2_Starts.l0])
    | succ k1 =>
      have H := HA.out
      clear HA
      simp only [correctorref2_Starts.l0] at H
      by_cases c4 : x4_1 < (l0.length : Int)
      · rw [if_pos c4] at H
        have c4b0 : decide (x4_1 < (l0.length : Int)) = true := decide_eq_true c4
        clear c4
        replace H := Option.bind_eq_some_iff.mp H
        obtain ⟨t114, A50, H⟩ := H
        replace H : (if t114 > 0 then (if x3_1.length < 17592186044416 then (correctorref2_Starts.l0 k1 l0 (x3_1 ++ [wrap64 (x4_1 + (mx t114 1))]) (wrap64 (x4_1 + (mx t114 1)))) else (none)) else (correctorref2_Starts.l0 k1 l0 x3_1 (wrap64 (x4_1 + (mx t114 1))))) = some r := H
        have A5 := Aside0.mk A50
        clear A50
        obtain ⟨ji6, hji6⟩ : ∃ j_ : Int, (mx t114 1) = j_ := ⟨_, rfl⟩
        replace H : (if t114 > 0 then (if x3_1.length < 17592186044416 then (correctorref2_Starts.l0 k1 l0 (x3_1 ++ [wrap64 (x4_1 + (ji6))]) (wrap64 (x4_1 + (ji6)))) else (none)) else (correctorref2_Starts.l0 k1 l0 x3_1 (wrap64 (x4_1 + (ji6))))) = some r := by first | (rw [hji6] at H; exact H) | (simp only [hji6] at H ⊢; exact H)
        (try rw [hji6] at A5)
        (try (have hji6l : 1 ≤ ji6 := by (rw [← hji6]; unfold mx; (repeat' split) <;> omega)))
        (try (have hji6m : 0 ≤ ji6 := by omega))
        have hji6_ : (if t114 < 1 then 1 else t114) = ji6 := hji6
        by_cases c7 : t114 > 0
        · rw [if_pos c7] at H
          have c7b0 : decide (0 < t114) = true := decide_eq_true c7
          clear c7
          by_cases c8 : x3_1.length < 17592186044416
          · rw [if_pos c8] at H
            have LMc8 := Aside0.mk c8
            clear c8
            obtain ⟨y115, hy115⟩ : ∃ y_ : List Int, y_ = (x3_1 ++ [wrap64 (x4_1 + (ji6))]) := ⟨_, rfl⟩
            replace H : (correctorref2_Starts.l0 k1 l0 y115 (wrap64 (x4_1 + (ji6)))) = some r := by first | (rw [hy115]; with_reducible exact H) | (have H2_ := (Option.bind_some _ _).symm.trans H; rw [hy115]; with_reducible exact H2_) | (have H2_ := (Option.bind_some _ _).symm.trans H; with_reducible exact H2_) | with_reducible exact H | (rw [hy115]; exact H) | exact H
            have Ny115 := Aside0.mk hy115
            clear hy115
            have H' := Aside0.mk H
            clear H
            go_wp2_with (first | ((with_reducible refine gate_callee (f := 25) rfl ?_); refine goesL_ (some 13) rfl rfl Tryd.func25 (by kernel_rfl) rfl #[.slice A0 l0.length c0, .int .i64 x4_1] rfl (by (try simp only [List.map_toArray, List.map_cons, List.map_nil]); first | done | rfl | (simp only [List.length_drop, List.length_take]; rfl)) ?_; (with_reducible refine (correctorref2_Break.calls k1 _ _ l0 x4_1 t114 _ ?side1 ?side2 A5.out).mono ?_); (case side1 => repeat (first | exact (Kd.C_below HR0.out HB.out) | (with_reducible refine Kd.C_alloc ?_ _) | (with_reducible refine Kd.C_drewN ?_ _) | (with_reducible refine Kd.C_drew ?_))); (case side2 => exact HC0.out); rintro e w' ⟨rfl, ⟨nd, rfl⟩⟩; refine ⟨_, rfl, ?_⟩) | ((with_reducible refine gate_builtin (b := .append) (xs := #[.tmp 20, .tmp 22]) rfl ?_); at_builtin; refine Kd.R_append (Kd.int .i64) (w0 := w) w.heap.size rfl (.tmp 20) (.tmp 22) 46 3 (.int .i64 0) 8 rfl Tryd.underlying46 info3 rfl (by decide) (by omega) u3 x3_1 (wrap64 (x4_1 + (ji6))) [.int .i64 (wrap64 (x4_1 + (ji6)))] (fun _ => True) (fun _ => False) rfl rfl ?aP (fun _ hk => hk.elim) ?aF ?aO ?aB ?aS ?aL ?_; (case aP => exact rfl); (case aB => exact (by repeat (first | (with_reducible first | exact HB.out | apply below_alloc | apply pw_below_drewN | apply below_drew1) | exact HB.out))); (case aF => exact (fun _ _ => trivial)); (case aO => exact (by (with_reducible repeat (first | apply Kd.R_alloc | apply Kd.R_drewN | apply Kd.R_drew)); exact HO_3.out)); (case aS => exact (below_size (by repeat (first | (with_reducible first | exact HB.out | apply below_alloc | apply pw_below_drewN | apply below_drew1) | exact HB.out)))); (case aL => have := LMc8.out; omega); intro v116 w9 ho hb hg hat; rw [← Ny115.out] at ho; have n0_ := Aside0.mk (hb); have n1_ := Aside0.mk (ho); clear HB; clear HO_3; have HB := n0_; have HO117 := n1_; clear n0_ n1_; clear ho hb hg hat))
            go_roundg k1
            case measure => have := HK1.out; omega
            case rel => exact ⟨(y115), (wrap64 (x4_1 + (ji6))), (by first | rfl | (simp; done) | (simp only [← hji6] <;> (first | rfl | simp)) | (simp [*]; done)), H', ⟨by have := HK1.out; omega⟩, ⟨by (with_reducible repeat (first | apply Kd.R_alloc | apply Kd.R_drewN | apply Kd.R_drew)); exact HO117.out⟩, ⟨by repeat (first | (with_reducible first | exact HB.out | apply below_alloc | apply pw_below_drewN | apply below_drew1) | exact HB.out)⟩⟩
          · rw [if_neg c8] at H
            exact absurd H (by simp)
        · rw [if_neg c7] at H
          have c7b0 : decide (0 < t114) = false := decide_eq_false c7
          clear c7
          have H' := Aside0.mk H
          clear H
          go_wp2_with (first | ((with_reducible refine gate_callee (f := 25) rfl ?_); refine goesL_ (some 13) rfl rfl Tryd.func25 (by kernel_rfl) rfl #[.slice A0 l0.length c0, .int .i64 x4_1] rfl (by (try simp only [List.map_toArray, List.map_cons, List.map_nil]); first | done | rfl | (simp only [List.length_drop, List.length_take]; rfl)) ?_; (with_reducible refine (correctorref2_Break.calls k1 _ _ l0 x4_1 t114 _ ?side1 ?side2 A5.out).mono ?_); (case side1 => repeat (first | exact (Kd.C_below HR0.out HB.out) | (with_reducible refine Kd.C_alloc ?_ _) | (with_reducible refine Kd.C_drewN ?_ _) | (with_reducible refine Kd.C_drew ?_))); (case side2 => exact HC0.out); rintro e w' ⟨rfl, ⟨nd, rfl⟩⟩; refine ⟨_, rfl, ?_⟩))
          go_roundg k1
          case measure => have := HK1.out; omega
          case rel => exact ⟨(x3_1), (wrap64 (x4_1 + (ji6))), (by first | rfl | (simp; done) | (simp only [← hji6] <;> (first | rfl | simp)) | (simp [*]; done)), H', ⟨by have := HK1.out; omega⟩, ⟨by (with_reducible repeat (first | apply Kd.R_alloc | apply Kd.R_drewN | apply Kd.R_drew)); exact HO_3.out⟩, ⟨by repeat (first | (with_reducible first | exact HB.out | apply below_alloc | apply pw_below_drewN | apply below_drew1) | exact HB.out)⟩⟩
      · rw [if_neg c4] at H
        have c4b0 : decide (x4_1 < (l0.length : Int)) = false := decide_eq_false c4
        clear c4
        obtain rfl := Option.some.inj H
        go_wp2
        go_ret
        exact ⟨_, by first | rfl | (simp [errW_none, errW_some] <;> rfl) | (simp [*, errW_none, errW_some] <;> rfl), by (with_reducible repeat (first | apply Kd.R_alloc | apply Kd.R_drewN | apply Kd.R_drew)); exact HO_3.out, by repeat (first | (with_reducible first | exact HB.out | apply below_alloc | apply pw_below_drewN | apply below_drew1) | exact HB.out)⟩

/-! ### correctorref1_sign: function 30 -/
def correctorref1_sign.l0 : Nat → List Int → Int → Int → Int → Int → Option (Int × Int)
  | 0, _, _, _, _, _ => none
  | k + 1, x0, x1, x2, x3, x10 => if x10 < x1 then (if 0 ≤ x10 then (if x10 < (x0.length : Int) then (if (rd x0 x10) < 128 then (some ((-1), 1)) else (if (rd x0 x10) > 191 then (some ((-1), 1)) else (correctorref1_sign.l0 k x0 x1 (Go.bits .or .i32 (wrap32 (x2 * 64)) (wrap32 (Go.bits .and .u8 (rd x0 x10) 63))) x3 (wrap64 (x10 + 1))))) else (none)) else (none)) else (if x2 < x3 then (some ((-1), 1)) else (if x2 > 1114111 then (some ((-1), 1)) else (if x2 ≥ 55296 then (if x2 ≤ 57343 then (some ((-1), 1)) else (some (x2, x1))) else (some (x2, x1)))))
def correctorref1_sign.f (k : Nat) (l0 : List Int) (a1 : Int) (a2 : Int) (a3 : Int) : Option (Int × Int) := if (l0.length : Int) < a1 then (some ((-1), 1)) else (correctorref1_sign.l0 k l0 a1 a2 a3 1)
theorem correctorref1_sign.mono_l : ∀ k, (∀ y0 y1 y2 y3 y4, LeO (correctorref1_sign.l0 k y0 y1 y2 y3 y4) (correctorref1_sign.l0 (k + 1) y0 y1 y2 y3 y4))
  | 0 => fun _ _ _ _ _ r h => by simp [correctorref1_sign.l0] at h
  | k + 1 => by
    have ih0 := correctorref1_sign.mono_l k
    · intro y0 y1 y2 y3 y4
      unfold correctorref1_sign.l0
      repeat' first
      | (with_reducible exact ih0 _ _ _ _ _)
      | (with_reducible exact LeO.refl _)
      | (with_reducible exact LeO.none _)
      | (with_reducible refine LeO.ite ?_ ?_)
      | (with_reducible refine LeO.bind ?_ (fun _ => ?_))
      | exact ih0 _ _ _ _ _
      | exact LeO.none _
      | refine LeO.ite ?_ ?_
      | refine LeO.bind ?_ (fun _ => ?_)
theorem correctorref1_sign.mono : ∀ a0 a1 a2 a3 k, LeO (correctorref1_sign.f k a0 a1 a2 a3) (correctorref1_sign.f (k + 1) a0 a1 a2 a3) := by
  intro a0 a1 a2 a3 k
  have ih0 := correctorref1_sign.mono_l k
  unfold correctorref1_sign.f
  repeat' first
      | (with_reducible exact ih0 _ _ _ _ _)
      | (with_reducible exact LeO.refl _)
      | (with_reducible exact LeO.none _)
      | (with_reducible refine LeO.ite ?_ ?_)
      | (with_reducible refine LeO.bind ?_ (fun _ => ?_))
      | exact ih0 _ _ _ _ _
      | exact LeO.none _
      | refine LeO.ite ?_ ?_
      | refine LeO.bind ?_ (fun _ => ?_)
set_option maxHeartbeats 8000000 in
set_option maxRecDepth 100000 in
theorem correctorref1_sign.calls (k : Nat) (A0 : Option Addr) (c0 : Nat) (l0 : List Int) (a1 : Int) (a2 : Int) (a3 : Int) (r1 : Int) (r2 : Int) (w : World) (hr0 : Kd.C (Kd.int .u8) w A0 l0.length l0) (hc0 : l0.length ≤ c0) (h : correctorref1_sign.f k l0 a1 a2 a3 = some (r1, r2)) :
    Calls Tryd.prog 30 #[.slice A0 l0.length c0, .int .i64 a1, .int .i32 a2, .int .i32 a3] w fun e w' => e = .returned (.tuple #[.int .i32 r1, .int .i64 r2]) ∧ Drawn0 w w' := by
  have HR0 := Aside0.mk hr0
  have HC0 := Aside0.mk hc0
  clear hr0 hc0
  have H : (if (l0.length : Int) < a1 then (some ((-1), 1)) else (correctorref1_sign.l0 k l0 a1 a2 a3 1)) = some (r1, r2) := h
  clear h
  by_cases c5 : (l0.length : Int) < a1
  · rw [if_pos c5] at H
    have c5b0 : decide ((l0.length : Int) < a1) = true := decide_eq_true c5
    clear c5
    simp only [Option.some.injEq, Prod.mk.injEq] at H
    obtain ⟨rfl, rfl⟩ := H
    go_enter Tryd.func30, Tryd.ntmps30
    go_wp2
    go_ret2
    exact ⟨by first | rfl | (simp; done) | (simp [*]; done), by repeat (first | exact Drawn0.refl _ | apply Drawn0.step)⟩
  · rw [if_neg c5] at H
    have c5b0 : decide ((l0.length : Int) < a1) = false := decide_eq_false c5
    clear c5
    have H' := Aside0.mk H
    clear H
    go_enter Tryd.func30, Tryd.ntmps30
    go_wp2
    go_loopg [2, 10] k (fun kq v2 v10 w' => ∃ (x2_1 : Int) (x10_1 : Int), v2 = .int .i32 x2_1 ∧ v10 = .int .i64 x10_1 ∧ Aside0 (correctorref1_sign.l0 kq l0 a1 x2_1 a3 x10_1 = some (r1, r2)) ∧ Aside0 (kq ≤ k) ∧ Drawn0 w w')
    case atStart => exact ⟨(a2), (1), (by first | rfl | (simp; done) | (simp [*]; done)), (by first | rfl | (simp; done) | (simp [*]; done)), H', ⟨Nat.le_refl _⟩, by repeat (first | exact Drawn0.refl _ | apply Drawn0.step)⟩
    case round =>
      clear H'
      try clear p2
      try clear c3
      try clear c5
      try clear c5b0
      obtain ⟨x2_1, x10_1, rfl, rfl, HA, HK1, ⟨m1, rfl⟩⟩ := hrel
      cases gk with
      | zero => exact absurd HA.out (by simp [correctorref1_sign.l0])
      | succ k1 =>
        have H := HA.out
        clear HA
        simp only [correctorref1_sign.l0] at H
        by_cases c6 : x10_1 < a1
        · rw [if_pos c6] at H
          have c6b0 : decide (x10_1 < a1) = true := decide_eq_true c6
          clear c6
          by_cases c7 : 0 ≤ x10_1
          · rw [if_pos c7] at H
            have c7b0 : decide (0 ≤ x10_1) = true := decide_eq_true c7
            clear c7
            by_cases c8 : x10_1 < (l0.length : Int)
            · rw [if_pos c8] at H
              have c8b0 : decide (x10_1 < (l0.length : Int)) = true := decide_eq_true c8
              clear c8
              by_cases c9 : (rd l0 x10_1) < 128
              · rw [if_pos c9] at H
                have c9b0 : decide ((rd l0 x10_1) < 128) = true := decide_eq_true c9
                clear c9
                simp only [Option.some.injEq, Prod.mk.injEq] at H
                obtain ⟨rfl, rfl⟩ := H
                have p118 : 0 ≤ (x10_1 : Int) := of_decide_eq_true (by first | (with_reducible assumption) | assumption)
                have q118 : x10_1 < (l0.length : Int) := of_decide_eq_true (by first | (with_reducible assumption) | assumption)
                obtain ⟨ad118, e118, hx118_0⟩ := Kd.at_int HR0.out x10_1 p118 q118
                cases e118
                replace p118 := eq_true p118
                replace q118 := eq_true q118
                go_wp2
                go_ret2
                exact ⟨by first | rfl | (simp; done) | (simp [*]; done), by repeat (first | exact Drawn0.refl _ | apply Drawn0.step)⟩
              · rw [if_neg c9] at H
                have c9b0 : decide ((rd l0 x10_1) < 128) = false := decide_eq_false c9
                clear c9
                by_cases c10 : (rd l0 x10_1) > 191
                · rw [if_pos c10] at H
                  have c10b0 : decide (191 < (rd l0 x10_1)) = true := decide_eq_true c10
                  clear c10
                  simp only [Option.some.injEq, Prod.mk.injEq] at H
                  obtain ⟨rfl, rfl⟩ := H
                  have p118 : 0 ≤ (x10_1 : Int) := of_decide_eq_true (by first | (with_reducible assumption) | assumption)
                  have q118 : x10_1 < (l0.length : Int) := of_decide_eq_true (by first | (with_reducible assumption) | assumption)
                  obtain ⟨ad118, e118, hx118_0⟩ := Kd.at_int HR0.out x10_1 p118 q118
                  cases e118
                  replace p118 := eq_true p118
                  replace q118 := eq_true q118
                  have p119 : 0 ≤ (x10_1 : Int) := of_decide_eq_true (by first | (with_reducible assumption) | assumption)
                  have q119 : x10_1 < (l0.length : Int) := of_decide_eq_true (by first | (with_reducible assumption) | assumption)
                  obtain ⟨ad119, e119, hx119_0⟩ := Kd.at_int HR0.out x10_1 p119 q119
                  obtain rfl : ad118 = ad119 := (by injection e119)
                  replace p119 := eq_true p119
                  replace q119 := eq_true q119
                  go_wp2
                  go_ret2
                  exact ⟨by first | rfl | (simp; done) | (simp [*]; done), by repeat (first | exact Drawn0.refl _ | apply Drawn0.step)⟩
                · rw [if_neg c10] at H
                  have c10b0 : decide (191 < (rd l0 x10_1)) = false := decide_eq_false c10
                  clear c10
                  have H' := Aside0.mk H
                  clear H
                  have p118 : 0 ≤ (x10_1 : Int) := of_decide_eq_true (by first | (with_reducible assumption) | assumption)
                  have q118 : x10_1 < (l0.length : Int) := of_decide_eq_true (by first | (with_reducible assumption) | assumption)
                  obtain ⟨ad118, e118, hx118_0⟩ := Kd.at_int HR0.out x10_1 p118 q118
                  cases e118
                  replace p118 := eq_true p118
                  replace q118 := eq_true q118
                  have p119 : 0 ≤ (x10_1 : Int) := of_decide_eq_true (by first | (with_reducible assumption) | assumption)
                  have q119 : x10_1 < (l0.length : Int) := of_decide_eq_true (by first | (with_reducible assumption) | assumption)
                  obtain ⟨ad119, e119, hx119_0⟩ := Kd.at_int HR0.out x10_1 p119 q119
                  obtain rfl : ad118 = ad119 := (by injection e119)
                  replace p119 := eq_true p119
                  replace q119 := eq_true q119
                  have p120 : 0 ≤ (x10_1 : Int) := of_decide_eq_true (by first | (with_reducible assumption) | assumption)
                  have q120 : x10_1 < (l0.length : Int) := of_decide_eq_true (by first | (with_reducible assumption) | assumption)
                  obtain ⟨ad120, e120, hx120_0⟩ := Kd.at_int HR0.out x10_1 p120 q120
                  obtain rfl : ad118 = ad120 := (by injection e120)
                  replace p120 := eq_true p120
                  replace q120 := eq_true q120
                  go_wp2
                  go_roundg k1
                  case measure => have := HK1.out; omega
                  case rel => exact ⟨(Go.bits .or .i32 (wrap32 (x2_1 * 64)) (wrap32 (Go.bits .and .u8 (rd l0 x10_1) 63))), (wrap64 (x10_1 + 1)), (by first | rfl | (simp; done) | (simp [*]; done)), (by first | rfl | (simp; done) | (simp [*]; done)), H', ⟨by have := HK1.out; omega⟩, by repeat (first | exact Drawn0.refl _ | apply Drawn0.step)⟩
            · rw [if_neg c8] at H
              exact absurd H (by simp)
          · rw [if_neg c7] at H
            exact absurd H (by simp)
        · rw [if_neg c6] at H
          have c6b0 : decide (x10_1 < a1) = false := decide_eq_false c6
          clear c6
          by_cases c11 : x2_1 < a3
          · rw [if_pos c11] at H
            have c11b0 : decide (x2_1 < a3) = true := decide_eq_true c11
            clear c11
            simp only [Option.some.injEq, Prod.mk.injEq] at H
            obtain ⟨rfl, rfl⟩ := H
            go_wp2
            go_ret2
            exact ⟨by first | rfl | (simp; done) | (simp [*]; done), by repeat (first | exact Drawn0.refl _ | apply Drawn0.step)⟩
          · rw [if_neg c11] at H
            have c11b0 : decide (x2_1 < a3) = false := decide_eq_false c11
            clear c11
            by_cases c12 : x2_1 > 1114111
            · rw [if_pos c12] at H
              have c12b0 : decide (1114111 < x2_1) = true := decide_eq_true c12
              clear c12
              simp only [Option.some.injEq, Prod.mk.injEq] at H
              obtain ⟨rfl, rfl⟩ := H
              go_wp2
              go_ret2
              exact ⟨by first | rfl | (simp; done) | (simp [*]; done), by repeat (first | exact Drawn0.refl _ | apply Drawn0.step)⟩
            · rw [if_neg c12] at H
              have c12b0 : decide (1114111 < x2_1) = false := decide_eq_false c12
              clear c12
              by_cases c13 : x2_1 ≥ 55296
              · rw [if_pos c13] at H
                have c13b0 : decide (55296 ≤ x2_1) = true := decide_eq_true c13
                clear c13
                by_cases c14 : x2_1 ≤ 57343
                · rw [if_pos c14] at H
                  have c14b0 : decide (x2_1 ≤ 57343) = true := decide_eq_true c14
                  clear c14
                  simp only [Option.some.injEq, Prod.mk.injEq] at H
                  obtain ⟨rfl, rfl⟩ := H
                  go_wp2
                  go_ret2
                  exact ⟨by first | rfl | (simp; done) | (simp [*]; done), by repeat (first | exact Drawn0.refl _ | apply Drawn0.step)⟩
                · rw [if_neg c14] at H
                  have c14b0 : decide (x2_1 ≤ 57343) = false := decide_eq_false c14
                  clear c14
                  simp only [Option.some.injEq, Prod.mk.injEq] at H
                  obtain ⟨rfl, rfl⟩ := H
                  go_wp2
                  go_ret2
                  exact ⟨by first | rfl | (simp; done) | (simp [*]; done), by repeat (first | exact Drawn0.refl _ | apply Drawn0.step)⟩
              · rw [if_neg c13] at H
                have c13b0 : decide (55296 ≤ x2_1) = false := decide_eq_false c13
                clear c13
                simp only [Option.some.injEq, Prod.mk.injEq] at H
                obtain ⟨rfl, rfl⟩ := H
                go_wp2
                go_ret2
                exact ⟨by first | rfl | (simp; done) | (simp [*]; done), by repeat (first | exact Drawn0.refl _ | apply Drawn0.step)⟩

end Go.Proofs.YtjecgapnlnmloaaDoor.PRender
