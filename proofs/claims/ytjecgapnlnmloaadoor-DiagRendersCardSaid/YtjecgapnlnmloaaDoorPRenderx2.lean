-- PRINTED BY print.sh 35421559b90ae4d0a3588c463048766b98c2df88dd9212a6774a882060cdf62d: not written by this session
import Derived.Test.YtjecgapnlnmloaaDoorPRenderx0
import Derived.Test.YtjecgapnlnmloaaDoorPRenderx1
namespace Go.Proofs.YtjecgapnlnmloaaDoor.PRender
open Go.RowKit Go.Proofs.YtjecgapnlnmloaaDoorW.PrintWords Go.Proofs.YtjecgapnlnmloaaDoorW.PrintLast Go.Proofs.YtjecgapnlnmloaaDoorW.PrintMore
attribute [local go_sem] max2_int min2_int max_two min_two max_three min_three max_four min_four   -- for this text's walks alone
set_option linter.unusedVariables false
set_option linter.unusedSimpArgs false

/-! ### correctorref1_Next: function 26 -/
mutual
def correctorref1_Next.j0 : Nat → List Int → Int → Bool → Option (Int × Int)
  | 0, _, _, _ => none
  | k + 1, x0, x4, x16 => if x16 = true then ((correctorref1_sign.f k x0 2 (wrap32 (Go.bits .and .u8 x4 31)) 128).bind fun bt122 => (some (bt122.1, bt122.2))) else (if x4 ≥ 224 then (correctorref1_Next.j1 k x0 x4 (decide (x4 < 240))) else (correctorref1_Next.j1 k x0 x4 false))
def correctorref1_Next.j1 : Nat → List Int → Int → Bool → Option (Int × Int)
  | 0, _, _, _ => none
  | k + 1, x0, x4, x30 => if x30 = true then ((correctorref1_sign.f k x0 3 (wrap32 (Go.bits .and .u8 x4 15)) 2048).bind fun bt124 => (some (bt124.1, bt124.2))) else (if x4 ≥ 240 then (if x4 < 248 then ((correctorref1_sign.f k x0 4 (wrap32 (Go.bits .and .u8 x4 7)) 65536).bind fun bt126 => (some (bt126.1, bt126.2))) else (some ((-1), 1))) else (some ((-1), 1)))
end
def correctorref1_Next.f (k : Nat) (l0 : List Int) : Option (Int × Int) := if (l0.length : Int) = 0 then (some ((-1), 0)) else (if 0 < (l0.length : Int) then (if (rd l0 0) < 128 then (some (wrap32 (rd l0 0), 1)) else (if (rd l0 0) ≥ 192 then (correctorref1_Next.j0 k l0 (rd l0 0) (decide ((rd l0 0) < 224))) else (correctorref1_Next.j0 k l0 (rd l0 0) false))) else (none))
theorem correctorref1_Next.mono_l : ∀ k, (∀ y0 y1 y2, LeO (correctorref1_Next.j0 k y0 y1 y2) (correctorref1_Next.j0 (k + 1) y0 y1 y2)) ∧ (∀ y0 y1 y2, LeO (correctorref1_Next.j1 k y0 y1 y2) (correctorref1_Next.j1 (k + 1) y0 y1 y2))
  | 0 => ⟨fun _ _ _ r h => by simp [correctorref1_Next.j0] at h, fun _ _ _ r h => by simp [correctorref1_Next.j1] at h⟩
  | k + 1 => by
    obtain ⟨ih0, ih1⟩ := correctorref1_Next.mono_l k
    refine ⟨?_, ?_⟩
    · intro y0 y1 y2
      unfold correctorref1_Next.j0
      repeat' first
      | (with_reducible exact ih0 _ _ _)
      | (with_reducible exact ih1 _ _ _)
      | (with_reducible exact correctorref1_sign.mono _ _ _ _ _)
      | (with_reducible exact LeO.refl _)
      | (with_reducible exact LeO.none _)
      | (with_reducible refine LeO.ite ?_ ?_)
      | (with_reducible refine LeO.bind ?_ (fun _ => ?_))
      | exact ih0 _ _ _
      | exact ih1 _ _ _
      | exact correctorref1_sign.mono _ _ _ _ _
      | exact LeO.none _
      | refine LeO.ite ?_ ?_
      | refine LeO.bind ?_ (fun _ => ?_)
    · intro y0 y1 y2
      unfold correctorref1_Next.j1
      repeat' first
      | (with_reducible exact ih0 _ _ _)
      | (with_reducible exact ih1 _ _ _)
      | (with_reducible exact correctorref1_sign.mono _ _ _ _ _)
      | (with_reducible exact LeO.refl _)
      | (with_reducible exact LeO.none _)
      | (with_reducible refine LeO.ite ?_ ?_)
      | (with_reducible refine LeO.bind ?_ (fun _ => ?_))
      | exact ih0 _ _ _
      | exact ih1 _ _ _
      | exact correctorref1_sign.mono _ _ _ _ _
      | exact LeO.none _
      | refine LeO.ite ?_ ?_
      | refine LeO.bind ?_ (fun _ => ?_)
theorem correctorref1_Next.mono : ∀ a0 k, LeO (correctorref1_Next.f k a0) (correctorref1_Next.f (k + 1) a0) := by
  intro a0 k
  obtain ⟨ih0, ih1⟩ := correctorref1_Next.mono_l k
  unfold correctorref1_Next.f
  repeat' first
      | (with_reducible exact ih0 _ _ _)
      | (with_reducible exact ih1 _ _ _)
      | (with_reducible exact correctorref1_sign.mono _ _ _ _ _)
      | (with_reducible exact LeO.refl _)
      | (with_reducible exact LeO.none _)
      | (with_reducible refine LeO.ite ?_ ?_)
      | (with_reducible refine LeO.bind ?_ (fun _ => ?_))
      | exact ih0 _ _ _
      | exact ih1 _ _ _
      | exact correctorref1_sign.mono _ _ _ _ _
      | exact LeO.none _
      | refine LeO.ite ?_ ?_
      | refine LeO.bind ?_ (fun _ => ?_)
set_option maxHeartbeats 8000000 in
set_option maxRecDepth 100000 in
theorem correctorref1_Next.calls (k : Nat) (A0 : Option Addr) (c0 : Nat) (l0 : List Int) (r1 : Int) (r2 : Int) (w : World) (hr0 : Kd.C (Kd.int .u8) w A0 l0.length l0) (hc0 : l0.length ≤ c0) (h : correctorref1_Next.f k l0 = some (r1, r2)) :
    Calls Tryd.prog 26 #[.slice A0 l0.length c0] w fun e w' => e = .returned (.tuple #[.int .i32 r1, .int .i64 r2]) ∧ Drawn0 w w' := by
  have HR0 := Aside0.mk hr0
  have HC0 := Aside0.mk hc0
  clear hr0 hc0
  have H : (if (l0.length : Int) = 0 then (some ((-1), 0)) else (if 0 < (l0.length : Int) then (if (rd l0 0) < 128 then (some (wrap32 (rd l0 0), 1)) else (if (rd l0 0) ≥ 192 then (correctorref1_Next.j0 k l0 (rd l0 0) (decide ((rd l0 0) < 224))) else (correctorref1_Next.j0 k l0 (rd l0 0) false))) else (none))) = some (r1, r2) := h
  clear h
  by_cases c2 : (l0.length : Int) = 0
  · rw [if_pos c2] at H
    have c2b0 : ((l0.length : Int) == 0) = true := beq_iff_eq.mpr c2
    have c2b1 : ((l0.length : Int) != 0) = false := bne_eq_false_iff_eq.mpr c2
    clear c2
    simp only [Option.some.injEq, Prod.mk.injEq] at H
    obtain ⟨rfl, rfl⟩ := H
    go_enter Tryd.func26, Tryd.ntmps26
    go_wp2
    go_ret2
    exact ⟨by first | rfl | (simp; done) | (simp [*]; done), by repeat (first | exact Drawn0.refl _ | apply Drawn0.step)⟩
  · rw [if_neg c2] at H
    have c2b0 : ((l0.length : Int) == 0) = false := beq_eq_false_iff_ne.mpr c2
    have c2b1 : ((l0.length : Int) != 0) = true := bne_iff_ne.mpr c2
    have c2b2 : ¬ (l0 = []) := fun h_ => c2 (by rw [h_]; rfl)
    by_cases c3 : 0 < (l0.length : Int)
    · rw [if_pos c3] at H
      have c3b0 : decide (0 < (l0.length : Int)) = true := decide_eq_true c3
      have c3b1 : decide (0 < l0.length) = true := decide_eq_true (by omega)
      clear c3
      by_cases c4 : (rd l0 0) < 128
      · rw [if_pos c4] at H
        have c4b0 : decide ((rd l0 0) < 128) = true := decide_eq_true c4
        clear c4
        simp only [Option.some.injEq, Prod.mk.injEq] at H
        obtain ⟨rfl, rfl⟩ := H
        have p121 : 0 ≤ (0 : Int) := (by omega)
        have q121 : 0 < (l0.length : Int) := of_decide_eq_true (by first | (with_reducible assumption) | assumption)
        obtain ⟨ad121, e121, hx121_0⟩ := Kd.at_int HR0.out 0 p121 q121
        cases e121
        have qi121 : (0 < l0.length) = True := eq_true (by omega)
        (try rw [show ((0 : Int)).toNat = 0 from rfl] at hx121_0)
        (try rw [Addr.add_zero'] at hx121_0)
        replace p121 := eq_true p121
        replace q121 := eq_true q121
        go_enter Tryd.func26, Tryd.ntmps26
        go_wp2
        go_ret2
        exact ⟨by first | rfl | (simp; done) | (simp [*]; done), by repeat (first | exact Drawn0.refl _ | apply Drawn0.step)⟩
      · rw [if_neg c4] at H
        have c4b0 : decide ((rd l0 0) < 128) = false := decide_eq_false c4
        clear c4
        have HC5 := Aside0.mk H
        clear H
        have p121 : 0 ≤ (0 : Int) := (by omega)
        have q121 : 0 < (l0.length : Int) := of_decide_eq_true (by first | (with_reducible assumption) | assumption)
        obtain ⟨ad121, e121, hx121_0⟩ := Kd.at_int HR0.out 0 p121 q121
        cases e121
        have qi121 : (0 < l0.length) = True := eq_true (by omega)
        (try rw [show ((0 : Int)).toNat = 0 from rfl] at hx121_0)
        (try rw [Addr.add_zero'] at hx121_0)
        replace p121 := eq_true p121
        replace q121 := eq_true q121
        go_enter Tryd.func26, Tryd.ntmps26
        go_upto_region 6 with (fail)
        go_cut [16] (fun v16 wc => ∃ (kq : Nat) (x16_4 : Bool), v16 = .bool x16_4 ∧ Aside0 (correctorref1_Next.j0 kq l0 (rd l0 0) x16_4 = some (r1, r2)) ∧ Aside0 (kq ≤ k) ∧ Drawn0 w wc)
        case first =>
          have H := HC5.out
          clear HC5
          by_cases c6 : (rd l0 0) ≥ 192
          · rw [if_pos c6] at H
            have c6b0 : decide (192 ≤ (rd l0 0)) = true := decide_eq_true c6
            clear c6
            (first | rw [c6b0] | (simp only [i64_w, i32_w]; rw [c6b0]) | skip)
            have H' := Aside0.mk H
            clear H
            go_wp2
            go_meet
            case rel => exact ⟨_, (decide ((rd l0 0) < 224)), (by first | rfl | (simp; done) | (simp [*]; done)), H', ⟨by first | omega | exact Nat.le_refl _⟩, by repeat (first | exact Drawn0.refl _ | apply Drawn0.step)⟩
          · rw [if_neg c6] at H
            have c6b0 : decide (192 ≤ (rd l0 0)) = false := decide_eq_false c6
            clear c6
            (first | rw [c6b0] | (simp only [i64_w, i32_w]; rw [c6b0]) | skip)
            have H' := Aside0.mk H
            clear H
            go_wp2
            go_meet
            case rel => exact ⟨_, (false), (by first | rfl | (simp; done) | (simp [*]; done)), H', ⟨by first | omega | exact Nat.le_refl _⟩, by repeat (first | exact Drawn0.refl _ | apply Drawn0.step)⟩
        case rest =>
          clear HC5
          try clear p1
          try clear q1
          try clear hx1
          try clear qi1
          try clear c2
          try clear c2b0
          try clear c2b1
          try clear c2b2
          try clear p2
          try clear c3
          try clear c3b0
          try clear c3b1
          try clear p3
          try clear c4
          try clear c4b0
          try clear c6
          try clear c6b0
          try clear hx121_0
          try clear p121
          try clear q121
          obtain ⟨kq, x16_4, rfl, HA, HJ4, ⟨mc4, rfl⟩⟩ := hcut
          cases kq with
          | zero => exact absurd HA.out (by simp [correctorref1_Next.j0])
          | succ kj4 =>
            have H := HA.out
            clear HA
            simp only [correctorref1_Next.j0] at H
            by_cases c7 : x16_4 = true
            · subst c7
              have H1 : ((correctorref1_sign.f kj4 l0 2 (wrap32 (Go.bits .and .u8 (rd l0 0) 31)) 128).bind fun bt122 => (some (bt122.1, bt122.2))) = some (r1, r2) := by rw [if_pos rfl] at H; exact H
              clear H
              have H := H1
              clear H1
              replace H := Option.bind_eq_some_iff.mp H
              obtain ⟨⟨t122, t123⟩, A80, H⟩ := H
              replace H : (some (t122, t123)) = some (r1, r2) := H
              have A8 := Aside0.mk A80
              clear A80
              simp only [Option.some.injEq, Prod.mk.injEq] at H
              obtain ⟨rfl, rfl⟩ := H
              go_wp2_with (first | ((with_reducible refine gate_callee (f := 30) rfl ?_); refine goesL_ (some 27) rfl rfl Tryd.func30 (by kernel_rfl) rfl #[.slice (some ad121) l0.length c0, .int .i64 2, .int .i32 (wrap32 (Go.bits .and .u8 (rd l0 0) 31)), .int .i32 128] rfl (by (try simp only [List.map_toArray, List.map_cons, List.map_nil]); first | done | rfl | (simp only [List.length_drop, List.length_take]; rfl)) ?_; (with_reducible refine (correctorref1_sign.calls kj4 _ _ l0 2 (wrap32 (Go.bits .and .u8 (rd l0 0) 31)) 128 t122 t123 _ ?side1 ?side2 A8.out).mono ?_); (case side1 => repeat (first | exact HR0.out | (with_reducible refine Kd.C_alloc ?_ _) | (with_reducible refine Kd.C_drewN ?_ _) | (with_reducible refine Kd.C_drew ?_))); (case side2 => exact HC0.out); rintro e w' ⟨rfl, ⟨nd, rfl⟩⟩; refine ⟨_, rfl, ?_⟩))
              go_ret2
              exact ⟨by first | rfl | (simp; done) | (simp [*]; done), by repeat (first | exact Drawn0.refl _ | apply Drawn0.step)⟩
            · replace c7 := Bool.eq_false_iff.mpr c7
              subst c7
              have H1 : (if (rd l0 0) ≥ 224 then (correctorref1_Next.j1 kj4 l0 (rd l0 0) (decide ((rd l0 0) < 240))) else (correctorref1_Next.j1 kj4 l0 (rd l0 0) false)) = some (r1, r2) := by rw [if_neg (show ¬ (false = true) by decide)] at H; exact H
              clear H
              have H := H1
              clear H1
              have HC9 := Aside0.mk H
              clear H
              go_upto_region 8 with (fail)
              go_cut [30] (fun v30 wc => ∃ (kq : Nat) (x30_8 : Bool), v30 = .bool x30_8 ∧ Aside0 (correctorref1_Next.j1 kq l0 (rd l0 0) x30_8 = some (r1, r2)) ∧ Aside0 (kq ≤ kj4) ∧ Drawn0 w wc)
              case first =>
                have H := HC9.out
                clear HC9
                by_cases c10 : (rd l0 0) ≥ 224
                · rw [if_pos c10] at H
                  have c10b0 : decide (224 ≤ (rd l0 0)) = true := decide_eq_true c10
                  clear c10
                  (first | rw [c10b0] | (simp only [i64_w, i32_w]; rw [c10b0]) | skip)
                  have H' := Aside0.mk H
                  clear H
                  go_wp2
                  go_meet
                  case rel => exact ⟨_, (decide ((rd l0 0) < 240)), (by first | rfl | (simp; done) | (simp [*]; done)), H', ⟨by have := HJ4.out; first | omega | exact Nat.le_refl _⟩, by repeat (first | exact Drawn0.refl _ | apply Drawn0.step)⟩
                · rw [if_neg c10] at H
                  have c10b0 : decide (224 ≤ (rd l0 0)) = false := decide_eq_false c10
                  clear c10
                  (first | rw [c10b0] | (simp only [i64_w, i32_w]; rw [c10b0]) | skip)
                  have H' := Aside0.mk H
                  clear H
                  go_wp2
                  go_meet
                  case rel => exact ⟨_, (false), (by first | rfl | (simp; done) | (simp [*]; done)), H', ⟨by have := HJ4.out; first | omega | exact Nat.le_refl _⟩, by repeat (first | exact Drawn0.refl _ | apply Drawn0.step)⟩
              case rest =>
                clear HC9
                try clear c1
                try clear p1
                try clear q1
                try clear hx1
                try clear qi1
                try clear c2
                try clear c2b0
                try clear c2b1
                try clear c2b2
                try clear p2
                try clear c3
                try clear c3b0
                try clear c3b1
                try clear p3
                try clear c4
                try clear c4b0
                try clear c6
                try clear c6b0
                try clear c7
                try clear c10
                try clear c10b0
                try clear hx121_0
                try clear p1
                try clear p121
                try clear p2
                try clear p3
                try clear q1
                try clear q121
                obtain ⟨kq, x30_8, rfl, HA, HJ8, ⟨mc8, rfl⟩⟩ := hcut
                cases kq with
                | zero => exact absurd HA.out (by simp [correctorref1_Next.j1])
                | succ kj8 =>
                  have H := HA.out
                  clear HA
                  simp only [correctorref1_Next.j1] at H
                  by_cases c11 : x30_8 = true
                  · subst c11
                    have H1 : ((correctorref1_sign.f kj8 l0 3 (wrap32 (Go.bits .and .u8 (rd l0 0) 15)) 2048).bind fun bt124 => (some (bt124.1, bt124.2))) = some (r1, r2) := by rw [if_pos rfl] at H; exact H
                    clear H
                    have H := H1
                    clear H1
                    replace H := Option.bind_eq_some_iff.mp H
                    obtain ⟨⟨t124, t125⟩, A120, H⟩ := H
                    replace H : (some (t124, t125)) = some (r1, r2) := H
                    have A12 := Aside0.mk A120
                    clear A120
                    simp only [Option.some.injEq, Prod.mk.injEq] at H
                    obtain ⟨rfl, rfl⟩ := H
                    go_wp2_with (first | ((with_reducible refine gate_callee (f := 30) rfl ?_); refine goesL_ (some 41) rfl rfl Tryd.func30 (by kernel_rfl) rfl #[.slice (some ad121) l0.length c0, .int .i64 3, .int .i32 (wrap32 (Go.bits .and .u8 (rd l0 0) 15)), .int .i32 2048] rfl (by (try simp only [List.map_toArray, List.map_cons, List.map_nil]); first | done | rfl | (simp only [List.length_drop, List.length_take]; rfl)) ?_; (with_reducible refine (correctorref1_sign.calls kj8 _ _ l0 3 (wrap32 (Go.bits .and .u8 (rd l0 0) 15)) 2048 t124 t125 _ ?side1 ?side2 A12.out).mono ?_); (case side1 => repeat (first | exact HR0.out | (with_reducible refine Kd.C_alloc ?_ _) | (with_reducible refine Kd.C_drewN ?_ _) | (with_reducible refine Kd.C_drew ?_))); (case side2 => exact HC0.out); rintro e w' ⟨rfl, ⟨nd, rfl⟩⟩; refine ⟨_, rfl, ?_⟩))
                    go_ret2
                    exact ⟨by first | rfl | (simp; done) | (simp [*]; done), by repeat (first | exact Drawn0.refl _ | apply Drawn0.step)⟩
                  · replace c11 := Bool.eq_false_iff.mpr c11
                    subst c11
                    have H1 : (if (rd l0 0) ≥ 240 then (if (rd l0 0) < 248 then ((correctorref1_sign.f kj8 l0 4 (wrap32 (Go.bits .and .u8 (rd l0 0) 7)) 65536).bind fun bt126 => (some (bt126.1, bt126.2))) else (some ((-1), 1))) else (some ((-1), 1))) = some (r1, r2) := by rw [if_neg (show ¬ (false = true) by decide)] at H; exact H
                    clear H
                    have H := H1
                    clear H1
                    by_cases c13 : (rd l0 0) ≥ 240
                    · rw [if_pos c13] at H
                      have c13b0 : decide (240 ≤ (rd l0 0)) = true := decide_eq_true c13
                      clear c13
                      by_cases c14 : (rd l0 0) < 248
                      · rw [if_pos c14] at H
                        have c14b0 : decide ((rd l0 0) < 248) = true := decide_eq_true c14
                        clear c14
                        replace H := Option.bind_eq_some_iff.mp H
                        obtain ⟨⟨t126, t127⟩, A150, H⟩ := H
                        replace H : (some (t126, t127)) = some (r1, r2) := H
                        have A15 := Aside0.mk A150
                        clear A150
                        simp only [Option.some.injEq, Prod.mk.injEq] at H
                        obtain ⟨rfl, rfl⟩ := H
                        go_wp2_with (first | ((with_reducible refine gate_callee (f := 30) rfl ?_); refine goesL_ (some 55) rfl rfl Tryd.func30 (by kernel_rfl) rfl #[.slice (some ad121) l0.length c0, .int .i64 4, .int .i32 (wrap32 (Go.bits .and .u8 (rd l0 0) 7)), .int .i32 65536] rfl (by (try simp only [List.map_toArray, List.map_cons, List.map_nil]); first | done | rfl | (simp only [List.length_drop, List.length_take]; rfl)) ?_; (with_reducible refine (correctorref1_sign.calls kj8 _ _ l0 4 (wrap32 (Go.bits .and .u8 (rd l0 0) 7)) 65536 t126 t127 _ ?side1 ?side2 A15.out).mono ?_); (case side1 => repeat (first | exact HR0.out | (with_reducible refine Kd.C_alloc ?_ _) | (with_reducible refine Kd.C_drewN ?_ _) | (with_reducible refine Kd.C_drew ?_))); (case side2 => exact HC0.out); rintro e w' ⟨rfl, ⟨nd, rfl⟩⟩; refine ⟨_, rfl, ?_⟩))
                        go_ret2
                        exact ⟨by first | rfl | (simp; done) | (simp [*]; done), by repeat (first | exact Drawn0.refl _ | apply Drawn0.step)⟩
                      · rw [if_neg c14] at H
                        have c14b0 : decide ((rd l0 0) < 248) = false := decide_eq_false c14
                        clear c14
                        simp only [Option.some.injEq, Prod.mk.injEq] at H
                        obtain ⟨rfl, rfl⟩ := H
                        go_wp2
                        go_ret2
                        exact ⟨by first | rfl | (simp; done) | (simp [*]; done), by repeat (first | exact Drawn0.refl _ | apply Drawn0.step)⟩
                    · rw [if_neg c13] at H
                      have c13b0 : decide (240 ≤ (rd l0 0)) = false := decide_eq_false c13
                      clear c13
                      simp only [Option.some.injEq, Prod.mk.injEq] at H
                      obtain ⟨rfl, rfl⟩ := H
                      go_wp2
                      go_ret2
                      exact ⟨by first | rfl | (simp; done) | (simp [*]; done), by repeat (first | exact Drawn0.refl _ | apply Drawn0.step)⟩
    · rw [if_neg c3] at H
      exact absurd H (by simp)

/-! ### correctorref1_Count: function 21 -/
def correctorref1_Count.l0 : Nat → List Int → Int → Int → Option (Int)
  | 0, _, _, _ => none
  | k + 1, x0, x3, x4 => if x4 < (x0.length : Int) then (if 0 ≤ x4 then (if x4 ≤ (x0.length : Int) then ((correctorref1_Next.f k (x0.drop (x4 : Int).toNat)).bind fun bt129 => (correctorref1_Count.l0 k x0 (wrap64 (x3 + 1)) (wrap64 (x4 + bt129.2)))) else (none)) else (none)) else (some x3)
def correctorref1_Count.f (k : Nat) (l0 : List Int) : Option (Int) := correctorref1_Count.l0 k l0 0 0
theorem correctorref1_Count.mono_l : ∀ k, (∀ y0 y1 y2, LeO (correctorref1_Count.l0 k y0 y1 y2) (correctorref1_Count.l0 (k + 1) y0 y1 y2))
  | 0 => fun _ _ _ r h => by simp [correctorref1_Count.l0] at h
  | k + 1 => by
    have ih0 := correctorref1_Count.mono_l k
    · intro y0 y1 y2
      unfold correctorref1_Count.l0
      repeat' first
      | (with_reducible exact ih0 _ _ _)
      | (with_reducible exact correctorref1_Next.mono _ _)
      | (with_reducible exact LeO.refl _)
      | (with_reducible exact LeO.none _)
      | (with_reducible refine LeO.ite ?_ ?_)
      | (with_reducible refine LeO.bind ?_ (fun _ => ?_))
      | exact ih0 _ _ _
      | exact correctorref1_Next.mono _ _
      | exact LeO.none _
      | refine LeO.ite ?_ ?_
      | refine LeO.bind ?_ (fun _ => ?_)
theorem correctorref1_Count.mono : ∀ a0 k, LeO (correctorref1_Count.f k a0) (correctorref1_Count.f (k + 1) a0) := by
  intro a0 k
  have ih0 := correctorref1_Count.mono_l k
  unfold correctorref1_Count.f
  repeat' first
      | (with_reducible exact ih0 _ _ _)
      | (with_reducible exact correctorref1_Next.mono _ _)
      | (with_reducible exact LeO.refl _)
      | (with_reducible exact LeO.none _)
      | (with_reducible refine LeO.ite ?_ ?_)
      | (with_reducible refine LeO.bind ?_ (fun _ => ?_))
      | exact ih0 _ _ _
      | exact correctorref1_Next.mono _ _
      | exact LeO.none _
      | refine LeO.ite ?_ ?_
      | refine LeO.bind ?_ (fun _ => ?_)
set_option maxHeartbeats 8000000 in
set_option maxRecDepth 100000 in
theorem correctorref1_Count.calls (k : Nat) (A0 : Option Addr) (c0 : Nat) (l0 : List Int) (r : Int) (w : World) (hr0 : Kd.C (Kd.int .u8) w A0 l0.length l0) (hc0 : l0.length ≤ c0) (h : correctorref1_Count.f k l0 = some r) :
    Calls Tryd.prog 21 #[.slice A0 l0.length c0] w fun e w' => e = .returned (.int .i64 r) ∧ Drawn0 w w' := by
  have HR0 := Aside0.mk hr0
  have HC0 := Aside0.mk hc0
  clear hr0 hc0
  have H : (correctorref1_Count.l0 k l0 0 0) = some r := h
  clear h
  have H' := Aside0.mk H
  clear H
  go_enter Tryd.func21, Tryd.ntmps21
  go_wp2
  go_loopg [3, 4] k (fun kq v3 v4 w' => ∃ (x3_1 : Int) (x4_1 : Int), v3 = .int .i64 x3_1 ∧ v4 = .int .i64 x4_1 ∧ Aside0 (correctorref1_Count.l0 kq l0 x3_1 x4_1 = some r) ∧ Aside0 (kq ≤ k) ∧ Drawn0 w w')
  case atStart => exact ⟨(0), (0), (by first | rfl | (simp; done) | (simp [*]; done)), (by first | rfl | (simp; done) | (simp [*]; done)), H', ⟨Nat.le_refl _⟩, by repeat (first | exact Drawn0.refl _ | apply Drawn0.step)⟩
  case round =>
    clear H'
    obtain ⟨x3_1, x4_1, rfl, rfl, HA, HK1, ⟨m1, rfl⟩⟩ := hrel
    cases gk with
    | zero => exact absurd HA.out (by simp [correctorref1_Count.l0])
    | succ k1 =>
      have H := HA.out
      clear HA
      simp only [correctorref1_Count.l0] at H
      by_cases c2 : x4_1 < (l0.length : Int)
      · rw [if_pos c2] at H
        have c2b0 : decide (x4_1 < (l0.length : Int)) = true := decide_eq_true c2
        clear c2
        by_cases c3 : 0 ≤ x4_1
        · rw [if_pos c3] at H
          have c3b0 := eq_true c3
          have c3b1 : decide (0 ≤ x4_1) = true := decide_eq_true c3
          clear c3
          by_cases c4 : x4_1 ≤ (l0.length : Int)
          · rw [if_pos c4] at H
            have c4b0 := eq_true c4
            have c4b1 : decide (x4_1 ≤ (l0.length : Int)) = true := decide_eq_true c4
            clear c4
            replace H := Option.bind_eq_some_iff.mp H
            obtain ⟨⟨t129, t130⟩, A50, H⟩ := H
            replace H : (correctorref1_Count.l0 k1 l0 (wrap64 (x3_1 + 1)) (wrap64 (x4_1 + t130))) = some r := H
            have A5 := Aside0.mk A50
            clear A50
            have H' := Aside0.mk H
            clear H
            obtain ⟨i06, hi06, _, hsz6, _⟩ := info_parts info5
            obtain ⟨A6, hcut6, hA6, hC6⟩ := print_drop_of (P := Tryd.prog) (Value.int .u8) 0 22 5 .i64 Tryd.underlying22 hi06 hsz6 A0 c0 l0 x4_1 (of_decide_eq_true (by first | (with_reducible assumption) | assumption)) (of_decide_eq_true (by first | (with_reducible assumption) | assumption)) HC0.out
            have HR128 := Aside0.mk (Kd.C_of_reads (h1 := fun _ => rfl) (hA6 _ (Kd.reads_of_C HR0.out)))
            have HC128 := Aside0.mk hC6
            clear hA6 hC6 hi06 hsz6
            go_wp2_with (first | ((with_reducible refine gate_callee (f := 26) rfl ?_); refine goesL_ (some 17) rfl rfl Tryd.func26 (by kernel_rfl) rfl #[.slice A6 (l0.drop (x4_1 : Int).toNat).length (c0 - x4_1.toNat)] rfl (by (try simp only [List.map_toArray, List.map_cons, List.map_nil]); first | done | (rw [show (l0.drop (x4_1 : Int).toNat).length = (l0.length - x4_1.toNat) from List.length_drop] <;> rfl) | rfl | (simp only [List.length_drop, List.length_take]; rfl)) ?_; (with_reducible refine (correctorref1_Next.calls k1 _ _ (l0.drop (x4_1 : Int).toNat) t129 t130 _ ?side1 ?side2 A5.out).mono ?_); (case side1 => repeat (first | exact HR128.out | (with_reducible refine Kd.C_alloc ?_ _) | (with_reducible refine Kd.C_drewN ?_ _) | (with_reducible refine Kd.C_drew ?_))); (case side2 => exact HC128.out); rintro e w' ⟨rfl, ⟨nd, rfl⟩⟩; refine ⟨_, rfl, ?_⟩))
            go_roundg k1
            case measure => have := HK1.out; omega
            case rel => exact ⟨(wrap64 (x3_1 + 1)), (wrap64 (x4_1 + t130)), (by first | rfl | (simp; done) | (simp [*]; done)), (by first | rfl | (simp; done) | (simp [*]; done)), H', ⟨by have := HK1.out; omega⟩, by repeat (first | exact Drawn0.refl _ | apply Drawn0.step)⟩
          · rw [if_neg c4] at H
            exact absurd H (by simp)
        · rw [if_neg c3] at H
          exact absurd H (by simp)
      · rw [if_neg c2] at H
        have c2b0 : decide (x4_1 < (l0.length : Int)) = false := decide_eq_false c2
        clear c2
        obtain rfl := Option.some.inj H
        go_wp2
        go_ret
        exact ⟨by first | rfl | (simp; done) | (simp [*]; done), by repeat (first | exact Drawn0.refl _ | apply Drawn0.step)⟩

/-! ### correctorref2_Place: function 15 -/
mutual
def correctorref2_Place.j0 : Nat → List Int → Int → Bool → Option (Int × Int)
  | 0, _, _, _ => none
  | k + 1, x0, x1, x15 => if x15 = true then (some (0, 0)) else ((correctorref2_Starts.f k x0).bind fun t131 => (correctorref2_Place.l0 k x0 x1 t131 0))
def correctorref2_Place.l0 : Nat → List Int → Int → List Int → Int → Option (Int × Int)
  | 0, _, _, _, _ => none
  | k + 1, x0, x1, x6, x7 => if x7 < (x6.length : Int) then (if 0 ≤ x7 then (if (rd x6 x7) ≤ x1 then (correctorref2_Place.l0 k x0 x1 x6 (wrap64 (x7 + 1))) else (if 0 ≤ (wrap64 (x7 - 1)) then (if (wrap64 (x7 - 1)) < (x6.length : Int) then (if 0 ≤ (rd x6 (wrap64 (x7 - 1))) then (if (rd x6 (wrap64 (x7 - 1))) ≤ x1 then (if x1 ≤ (x0.length : Int) then ((correctorref1_Count.f k ((x0.take (x1 : Int).toNat).drop ((rd x6 (wrap64 (x7 - 1))) : Int).toNat)).bind fun t137 => (some (x7, wrap64 (1 + t137)))) else (none)) else (none)) else (none)) else (none)) else (none))) else (none)) else (if 0 ≤ (wrap64 (x7 - 1)) then (if (wrap64 (x7 - 1)) < (x6.length : Int) then (if 0 ≤ (rd x6 (wrap64 (x7 - 1))) then (if (rd x6 (wrap64 (x7 - 1))) ≤ x1 then (if x1 ≤ (x0.length : Int) then ((correctorref1_Count.f k ((x0.take (x1 : Int).toNat).drop ((rd x6 (wrap64 (x7 - 1))) : Int).toNat)).bind fun t140 => (some (x7, wrap64 (1 + t140)))) else (none)) else (none)) else (none)) else (none)) else (none))
end
def correctorref2_Place.f (k : Nat) (l0 : List Int) (a1 : Int) : Option (Int × Int) := if a1 < 0 then (correctorref2_Place.j0 k l0 a1 true) else (correctorref2_Place.j0 k l0 a1 (decide (a1 > (l0.length : Int))))
theorem correctorref2_Place.mono_l : ∀ k, (∀ y0 y1 y2, LeO (correctorref2_Place.j0 k y0 y1 y2) (correctorref2_Place.j0 (k + 1) y0 y1 y2)) ∧ (∀ y0 y1 y2 y3, LeO (correctorref2_Place.l0 k y0 y1 y2 y3) (correctorref2_Place.l0 (k + 1) y0 y1 y2 y3))
  | 0 => ⟨fun _ _ _ r h => by simp [correctorref2_Place.j0] at h, fun _ _ _ _ r h => by simp [correctorref2_Place.l0] at h⟩
  | k + 1 => by
    obtain ⟨ih0, ih1⟩ := correctorref2_Place.mono_l k
    refine ⟨?_, ?_⟩
    · intro y0 y1 y2
      unfold correctorref2_Place.j0
      repeat' first
      | (with_reducible exact ih0 _ _ _)
      | (with_reducible exact ih1 _ _ _ _)
      | (with_reducible exact correctorref1_Count.mono _ _)
      | (with_reducible exact correctorref2_Starts.mono _ _)
      | (with_reducible exact LeO.refl _)
      | (with_reducible exact LeO.none _)
      | (with_reducible refine LeO.ite ?_ ?_)
      | (with_reducible refine LeO.bind ?_ (fun _ => ?_))
      | exact ih0 _ _ _
      | exact ih1 _ _ _ _
      | exact correctorref1_Count.mono _ _
      | exact correctorref2_Starts.mono _ _
      | exact LeO.none _
      | refine LeO.ite ?_ ?_
      | refine LeO.bind ?_ (fun _ => ?_)
    · intro y0 y1 y2 y3
      unfold correctorref2_Place.l0
      repeat' first
      | (with_reducible exact ih0 _ _ _)
      | (with_reducible exact ih1 _ _ _ _)
      | (with_reducible exact correctorref1_Count.mono _ _)
      | (with_reducible exact correctorref2_Starts.mono _ _)
      | (with_reducible exact LeO.refl _)
      | (with_reducible exact LeO.none _)
      | (with_reducible refine LeO.ite ?_ ?_)
      | (with_reducible refine LeO.bind ?_ (fun _ => ?_))
      | exact ih0 _ _ _
      | exact ih1 _ _ _ _
      | exact correctorref1_Count.mono _ _
      | exact correctorref2_Starts.mono _ _
      | exact LeO.none _
      | refine LeO.ite ?_ ?_
      | refine LeO.bind ?_ (fun _ => ?_)
theorem correctorref2_Place.mono : ∀ a0 a1 k, LeO (correctorref2_Place.f k a0 a1) (correctorref2_Place.f (k + 1) a0 a1) := by
  intro a0 a1 k
  obtain ⟨ih0, ih1⟩ := correctorref2_Place.mono_l k
  unfold correctorref2_Place.f
  repeat' first
      | (with_reducible exact ih0 _ _ _)
      | (with_reducible exact ih1 _ _ _ _)
      | (with_reducible exact correctorref1_Count.mono _ _)
      | (with_reducible exact correctorref2_Starts.mono _ _)
      | (with_reducible exact LeO.refl _)
      | (with_reducible exact LeO.none _)
      | (with_reducible refine LeO.ite ?_ ?_)
      | (with_reducible refine LeO.bind ?_ (fun _ => ?_))
      | exact ih0 _ _ _
      | exact ih1 _ _ _ _
      | exact correctorref1_Count.mono _ _
      | exact correctorref2_Starts.mono _ _
      | exact LeO.none _
      | refine LeO.ite ?_ ?_
      | refine LeO.bind ?_ (fun _ => ?_)
set_option maxHeartbeats 8000000 in
set_option maxRecDepth 100000 in
theorem correctorref2_Place.calls (k : Nat) (A0 : Option Addr) (c0 : Nat) (l0 : List Int) (a1 : Int) (r1 : Int) (r2 : Int) (w : World) (hr0 : Kd.C (Kd.int .u8) w A0 l0.length l0) (hc0 : l0.length ≤ c0) (h : correctorref2_Place.f k l0 a1 = some (r1, r2)) :
    Calls Tryd.prog 15 #[.slice A0 l0.length c0, .int .i64 a1] w fun e w' => e = .returned (.tuple #[.int .i64 r1, .int .i64 r2]) ∧ Below w.heap.size w w' := by
  have HR0 := Aside0.mk hr0
  have HC0 := Aside0.mk hc0
  clear hr0 hc0
  have HB := Aside0.mk (Below.refl w.heap.size w)
  have H : (if a1 < 0 then (correctorref2_Place.j0 k l0 a1 true) else (correctorref2_Place.j0 k l0 a1 (decide (a1 > (l0.length : Int))))) = some (r1, r2) := h
  clear h
  have HC3 := Aside0.mk H
  clear H
  go_enter Tryd.func15, Tryd.ntmps15
  go_upto_region 1 with (fail)
  go_cut [15] (fun v15 wc => ∃ (kq : Nat) (x15_2 : Bool), v15 = .bool x15_2 ∧ Aside0 (correctorref2_Place.j0 kq l0 a1 x15_2 = some (r1, r2)) ∧ Aside0 (kq ≤ k) ∧ Aside0 (Below w.heap.size w wc))
  case first =>
    have H := HC3.out
    clear HC3
    by_cases c4 : a1 < 0
    · rw [if_pos c4] at H
      have c4b0 : decide (a1 < 0) = true := decide_eq_true c4
      clear c4
      (first | rw [c4b0] | (simp only [i64_w, i32_w]; rw [c4b0]) | skip)
      have H' := Aside0.mk H
      clear H
      go_wp2
      go_meet
      case rel => exact ⟨_, (true), (by first | rfl | (simp; done) | (simp [*]; done)), H', ⟨by first | omega | exact Nat.le_refl _⟩, ⟨by repeat (first | (with_reducible first | exact HB.out | apply below_alloc | apply pw_below_drewN | apply below_drew1) | exact HB.out)⟩⟩
    · rw [if_neg c4] at H
      have c4b0 : decide (a1 < 0) = false := decide_eq_false c4
      clear c4
      (first | rw [c4b0] | (simp only [i64_w, i32_w]; rw [c4b0]) | skip)
      have H' := Aside0.mk H
      clear H
      go_wp2
      go_meet
      case rel => exact ⟨_, (decide (a1 > (l0.length : Int))), (by first | rfl | (simp; done) | (simp [*]; done)), H', ⟨by first | omega | exact Nat.le_refl _⟩, ⟨by repeat (first | (with_reducible first | exact HB.out | apply below_alloc | apply pw_below_drewN | apply below_drew1) | exact HB.out)⟩⟩
  case rest =>
    clear HC3
    try clear c1
    try clear p2
    try clear c4
    try clear c4b0
    obtain ⟨kq, x15_2, rfl, HA, HJ2, HB⟩ := hcut
    cases kq with
    | zero => exact absurd HA.out (by simp [correctorref2_Place.j0])
    | succ kj2 =>
      have H := HA.out
      clear HA
      simp only [correctorref2_Place.j0] at H
      by_cases c5 : x15_2 = true
      · subst c5
        have H1 : (some (0, 0)) = some (r1, r2) := by rw [if_pos rfl] at H; exact H
        clear H
        have H := H1
        clear H1
        simp only [Option.some.injEq, Prod.mk.injEq] at H
        obtain ⟨rfl, rfl⟩ := H
        go_wp2
        go_ret2
        exact ⟨by first | rfl | (simp [errW_none, errW_some] <;> rfl) | (simp [*, errW_none, errW_some] <;> rfl), by repeat (first | (with_reducible first | exact HB.out | apply below_alloc | apply pw_below_drewN | apply below_drew1) | exact HB.out)⟩
      · replace c5 := Bool.eq_false_iff.mpr c5
        subst c5
        have H1 : ((correctorref2_Starts.f kj2 l0).bind fun t131 => (correctorref2_Place.l0 kj2 l0 a1 t131 0)) = some (r1, r2) := by rw [if_neg (show ¬ (false = true) by decide)] at H; exact H
        clear H
        have H := H1
        clear H1
        replace H := Option.bind_eq_some_iff.mp H
        obtain ⟨t131, A60, H⟩ := H
        replace H : (correctorref2_Place.l0 kj2 l0 a1 t131 0) = some (r1, r2) := H
        have A6 := Aside0.mk A60
        clear A60
        have H' := Aside0.mk H
        clear H
        go_wp2_with (first | ((with_reducible refine gate_callee (f := 20) rfl ?_); refine goesL_ (some 17) rfl rfl Tryd.func20 (by kernel_rfl) rfl #[.slice A0 l0.length c0] rfl (by (try simp only [List.map_toArray, List.map_cons, List.map_nil]); first | done | rfl | (simp only [List.length_drop, List.length_take]; rfl)) ?_; (with_reducible refine (correctorref2_Starts.calls kj2 _ _ l0 t131 _ ?side1 ?side2 A6.out).mono ?_); (case side1 => repeat (first | exact (Kd.C_below HR0.out HB.out) | (with_reducible refine Kd.C_alloc ?_ _) | (with_reducible refine Kd.C_drewN ?_ _) | (with_reducible refine Kd.C_drew ?_))); (case side2 => exact HC0.out); rintro e w7 ⟨v132, rfl, ho0, hb⟩; refine ⟨_, rfl, ?_⟩; have n0_ := Aside0.mk (Kd.R_lower ho0 (below_size (by repeat (first | (with_reducible first | exact HB.out | apply below_alloc | apply pw_below_drewN | apply below_drew1) | exact HB.out)))); have n1_ := Aside0.mk (below_step (by repeat (first | (with_reducible first | exact HB.out | apply below_alloc | apply pw_below_drewN | apply below_drew1) | exact HB.out)) hb); clear HB; have HO133 := n0_; have HB := n1_; clear n0_ n1_; (try clear hb); (try clear hb2); (try clear hk); (try clear hi); (try clear ho0)))
        go_loopg [7] kj2 (fun kq v7 w' => ∃ (x7_2 : Int), v7 = .int .i64 x7_2 ∧ Aside0 (correctorref2_Place.l0 kq l0 a1 t131 x7_2 = some (r1, r2)) ∧ Aside0 (kq ≤ kj2) ∧ Aside0 (Kd.R (Kd.int .i64) 3 w' w.heap.size (fun _ => True) v132 t131) ∧ Aside0 (Below w.heap.size w w'))
        case atStart => exact ⟨(0), (by first | rfl | (simp; done) | (simp [*]; done)), H', ⟨Nat.le_refl _⟩, ⟨by (with_reducible repeat (first | apply Kd.R_alloc | apply Kd.R_drewN | apply Kd.R_drew)); exact HO133.out⟩, ⟨by repeat (first | (with_reducible first | exact HB.out | apply below_alloc | apply pw_below_drewN | apply below_drew1) | exact HB.out)⟩⟩
        case round =>
          clear H'
          try clear c1
          try clear c2
          try clear p2
          try clear c4
          try clear c4b0
          try clear c5
          try clear p2
          obtain ⟨x7_2, rfl, HA, HK2, HO_6, HB⟩ := hrel
          cases gk with
          | zero => exact absurd HA.out (by simp [correctorref2_Place.l0])
          | succ k2 =>
            have H := HA.out
            clear HA
            simp only [correctorref2_Place.l0] at H
            by_cases c8 : x7_2 < (t131.length : Int)
            · rw [if_pos c8] at H
              have c8b0 : decide (x7_2 < (t131.length : Int)) = true := decide_eq_true c8
              clear c8
              by_cases c9 : 0 ≤ x7_2
              · rw [if_pos c9] at H
                have c9b0 : decide (0 ≤ x7_2) = true := decide_eq_true c9
                clear c9
                by_cases c10 : (rd t131 x7_2) ≤ a1
                · rw [if_pos c10] at H
                  have c10b0 : decide ((rd t131 x7_2) ≤ a1) = true := decide_eq_true c10
                  clear c10
                  have H' := Aside0.mk H
                  clear H
                  obtain ⟨Ao11, co11, eo11⟩ := Kd.R_slice HO_6.out
                  subst eo11
                  have p134 : 0 ≤ (x7_2 : Int) := of_decide_eq_true (by first | (with_reducible assumption) | assumption)
                  have q134 : x7_2 < (t131.length : Int) := of_decide_eq_true (by first | (with_reducible assumption) | assumption)
                  obtain ⟨ad134, e134, hx134_0⟩ := Kd.at_int (Kd.R_reads' HO_6.out).2.2 x7_2 p134 q134
                  cases e134
                  replace p134 := eq_true p134
                  replace q134 := eq_true q134
                  go_wp2
                  go_roundg k2
                  case measure => have := HJ2.out; have := HK2.out; omega
                  case rel => exact ⟨(wrap64 (x7_2 + 1)), (by first | rfl | (simp; done) | (simp [*]; done)), H', ⟨by have := HJ2.out; have := HK2.out; omega⟩, ⟨by (with_reducible repeat (first | apply Kd.R_alloc | apply Kd.R_drewN | apply Kd.R_drew)); exact HO_6.out⟩, ⟨by repeat (first | (with_reducible first | exact HB.out | apply below_alloc | apply pw_below_drewN | apply below_drew1) | exact HB.out)⟩⟩
                · rw [if_neg c10] at H
                  have c10b0 : decide ((rd t131 x7_2) ≤ a1) = false := decide_eq_false c10
                  clear c10
                  obtain ⟨ji12, hji12⟩ : ∃ j_ : Int, (wrap64 (x7_2 - 1)) = j_ := ⟨_, rfl⟩
                  replace H : (if 0 ≤ (ji12) then (if (ji12) < (t131.length : Int) then (if 0 ≤ (rd t131 (ji12)) then (if (rd t131 (ji12)) ≤ a1 then (if a1 ≤ (l0.length : Int) then ((correctorref1_Count.f k2 ((l0.take (a1 : Int).toNat).drop ((rd t131 (ji12)) : Int).toNat)).bind fun t137 => (some (x7_2, wrap64 (1 + t137)))) else (none)) else (none)) else (none)) else (none)) else (none)) = some (r1, r2) := by first | (rw [hji12] at H; exact H) | (simp only [hji12] at H ⊢; exact H)
                  have hji12w : (IntKind.i64.wrap (x7_2 - 1)) = ji12 := (i64_w _).trans hji12
                  by_cases c13 : 0 ≤ (ji12)
                  · rw [if_pos c13] at H
                    have c13b0 : decide (0 ≤ (ji12)) = true := decide_eq_true c13
                    clear c13
                    by_cases c14 : (ji12) < (t131.length : Int)
                    · rw [if_pos c14] at H
                      have c14b0 : decide ((ji12) < (t131.length : Int)) = true := decide_eq_true c14
                      clear c14
                      by_cases c15 : 0 ≤ (rd t131 (ji12))
                      · rw [if_pos c15] at H
                        have c15b0 := eq_true c15
                        have c15b1 : decide (0 ≤ (rd t131 (ji12))) = true := decide_eq_true c15
                        clear c15
                        by_cases c16 : (rd t131 (ji12)) ≤ a1
                        · rw [if_pos c16] at H
                          have c16b0 := eq_true c16
                          have c16b1 : decide ((rd t131 (ji12)) ≤ a1) = true := decide_eq_true c16
                          clear c16
                          by_cases c17 : a1 ≤ (l0.length : Int)
                          · rw [if_pos c17] at H
                            have c17b0 := eq_true c17
                            have c17b1 : decide (a1 ≤ (l0.length : Int)) = true := decide_eq_true c17
                            clear c17
                            replace H := Option.bind_eq_some_iff.mp H
                            obtain ⟨t137, A180, H⟩ := H
                            replace H : (some (x7_2, wrap64 (1 + t137))) = some (r1, r2) := H
                            have A18 := Aside0.mk A180
                            clear A180
                            simp only [Option.some.injEq, Prod.mk.injEq] at H
                            obtain ⟨rfl, rfl⟩ := H
                            obtain ⟨Ao19, co19, eo19⟩ := Kd.R_slice HO_6.out
                            subst eo19
                            have p134 : 0 ≤ (x7_2 : Int) := of_decide_eq_true (by first | (with_reducible assumption) | assumption)
                            have q134 : x7_2 < (t131.length : Int) := of_decide_eq_true (by first | (with_reducible assumption) | assumption)
                            obtain ⟨ad134, e134, hx134_0⟩ := Kd.at_int (Kd.R_reads' HO_6.out).2.2 x7_2 p134 q134
                            cases e134
                            replace p134 := eq_true p134
                            replace q134 := eq_true q134
                            have p135 : 0 ≤ ((ji12) : Int) := of_decide_eq_true (by first | (with_reducible assumption) | assumption)
                            have q135 : (ji12) < (t131.length : Int) := of_decide_eq_true (by first | (with_reducible assumption) | assumption)
                            obtain ⟨ad135, e135, hx135_0⟩ := Kd.at_int (Kd.R_reads' HO_6.out).2.2 (ji12) p135 q135
                            obtain rfl : ad134 = ad135 := (by injection e135)
                            replace p135 := eq_true p135
                            replace q135 := eq_true q135
                            obtain ⟨i020, hi020, _, hsz20, _⟩ := info_parts info5
                            obtain ⟨A20, hcut20, hA20, hC20⟩ := print_mid_of (P := Tryd.prog) (Value.int .u8) 0 22 5 .i64 .i64 Tryd.underlying22 hi020 hsz20 A0 c0 l0 (rd t131 (ji12)) a1 (of_decide_eq_true (by first | (with_reducible assumption) | assumption)) (by first | omega | exact of_decide_eq_true (by first | (with_reducible assumption) | assumption)) (of_decide_eq_true (by first | (with_reducible assumption) | assumption)) HC0.out
                            have HR136 := Aside0.mk (Kd.C_of_reads (h1 := fun _ => rfl) (hA20 _ (Kd.reads_of_C HR0.out)))
                            have HC136 := Aside0.mk hC20
                            clear hA20 hC20 hi020 hsz20
                            go_wp2_with (first | ((with_reducible refine gate_callee (f := 21) rfl ?_); refine goesL_ (some 41) rfl rfl Tryd.func21 (by kernel_rfl) rfl #[.slice A20 ((l0.take (a1 : Int).toNat).drop ((rd t131 (ji12)) : Int).toNat).length (c0 - (rd t131 (ji12)).toNat)] rfl (by (try simp only [List.map_toArray, List.map_cons, List.map_nil]); first | done | (rw [show ((l0.take (a1 : Int).toNat).drop ((rd t131 (ji12)) : Int).toNat).length = (a1.toNat - (rd t131 (ji12)).toNat) from (by rw [List.length_drop, List.length_take]; have h_ : (a1 : Int) ≤ (l0.length : Int) := of_decide_eq_true (by first | (with_reducible assumption) | assumption); omega)] <;> rfl) | (simp only [hji12]; rfl) | rfl | (simp only [List.length_drop, List.length_take]; rfl)) ?_; (with_reducible refine (correctorref1_Count.calls k2 _ _ ((l0.take (a1 : Int).toNat).drop ((rd t131 (ji12)) : Int).toNat) t137 _ ?side1 ?side2 A18.out).mono ?_); (case side1 => repeat (first | exact (Kd.C_below HR136.out HB.out) | (with_reducible refine Kd.C_alloc ?_ _) | (with_reducible refine Kd.C_drewN ?_ _) | (with_reducible refine Kd.C_drew ?_))); (case side2 => exact HC136.out); rintro e w' ⟨rfl, ⟨nd, rfl⟩⟩; refine ⟨_, rfl, ?_⟩))
                            go_ret2
                            exact ⟨by first | rfl | (simp [errW_none, errW_some] <;> rfl) | (simp only [← hji12]; first | rfl | (simp [errW_none, errW_some] <;> rfl)) | (simp [*, errW_none, errW_some] <;> rfl), by repeat (first | (with_reducible first | exact HB.out | apply below_alloc | apply pw_below_drewN | apply below_drew1) | exact HB.out)⟩
                          · rw [if_neg c17] at H
                            exact absurd H (by simp)
                        · rw [if_neg c16] at H
                          exact absurd H (by simp)
                      · rw [if_neg c15] at H
                        exact absurd H (by simp)
                    · rw [if_neg c14] at H
                      exact absurd H (by simp)
                  · rw [if_neg c13] at H
                    exact absurd H (by simp)
              · rw [if_neg c9] at H
                exact absurd H (by simp)
            · rw [if_neg c8] at H
              have c8b0 : decide (x7_2 < (t131.length : Int)) = false := decide_eq_false c8
              clear c8
              obtain ⟨ji21, hji21⟩ : ∃ j_ : Int, (wrap64 (x7_2 - 1)) = j_ := ⟨_, rfl⟩
              replace H : (if 0 ≤ (ji21) then (if (ji21) < (t131.length : Int) then (if 0 ≤ (rd t131 (ji21)) then (if (rd t131 (ji21)) ≤ a1 then (if a1 ≤ (l0.length : Int) then ((correctorref1_Count.f k2 ((l0.take (a1 : Int).toNat).drop ((rd t131 (ji21)) : Int).toNat)).bind fun t140 => (some (x7_2, wrap64 (1 + t140)))) else (none)) else (none)) else (none)) else (none)) else (none)) = some (r1, r2) := by first | (rw [hji21] at H; exact H) | (simp only [hji21] at H ⊢; exact H)
              have hji21w : (IntKind.i64.wrap (x7_2 - 1)) = ji21 := (i64_w _).trans hji21
              by_cases c22 : 0 ≤ (ji21)
              · rw [if_pos c22] at H
                have c22b0 : decide (0 ≤ (ji21)) = true := decide_eq_true c22
                clear c22
                by_cases c23 : (ji21) < (t131.length : Int)
                · rw [if_pos c23] at H
                  have c23b0 : decide ((ji21) < (t131.length : Int)) = true := decide_eq_true c23
                  clear c23
                  by_cases c24 : 0 ≤ (rd t131 (ji21))
                  · rw [if_pos c24] at H
                    have c24b0 := eq_true c24
                    have c24b1 : decide (0 ≤ (rd t131 (ji21))) = true := decide_eq_true c24
                    clear c24
                    by_cases c25 : (rd t131 (ji21)) ≤ a1
                    · rw [if_pos c25] at H
                      have c25b0 := eq_true c25
                      have c25b1 : decide ((rd t131 (ji21)) ≤ a1) = true := decide_eq_true c25
                      clear c25
                      by_cases c26 : a1 ≤ (l0.length : Int)
                      · rw [if_pos c26] at H
                        have c26b0 := eq_true c26
                        have c26b1 : decide (a1 ≤ (l0.length : Int)) = true := decide_eq_true c26
                        clear c26
                        replace H := Option.bind_eq_some_iff.mp H
                        obtain ⟨t140, A270, H⟩ := H
                        replace H : (some (x7_2, wrap64 (1 + t140))) = some (r1, r2) := H
                        have A27 := Aside0.mk A270
                        clear A270
                        simp only [Option.some.injEq, Prod.mk.injEq] at H
                        obtain ⟨rfl, rfl⟩ := H
                        obtain ⟨Ao28, co28, eo28⟩ := Kd.R_slice HO_6.out
                        subst eo28
                        have p138 : 0 ≤ ((ji21) : Int) := of_decide_eq_true (by first | (with_reducible assumption) | assumption)
                        have q138 : (ji21) < (t131.length : Int) := of_decide_eq_true (by first | (with_reducible assumption) | assumption)
                        obtain ⟨ad138, e138, hx138_0⟩ := Kd.at_int (Kd.R_reads' HO_6.out).2.2 (ji21) p138 q138
                        cases e138
                        replace p138 := eq_true p138
                        replace q138 := eq_true q138
                        obtain ⟨i029, hi029, _, hsz29, _⟩ := info_parts info5
                        obtain ⟨A29, hcut29, hA29, hC29⟩ := print_mid_of (P := Tryd.prog) (Value.int .u8) 0 22 5 .i64 .i64 Tryd.underlying22 hi029 hsz29 A0 c0 l0 (rd t131 (ji21)) a1 (of_decide_eq_true (by first | (with_reducible assumption) | assumption)) (by first | omega | exact of_decide_eq_true (by first | (with_reducible assumption) | assumption)) (of_decide_eq_true (by first | (with_reducible assumption) | assumption)) HC0.out
                        have HR139 := Aside0.mk (Kd.C_of_reads (h1 := fun _ => rfl) (hA29 _ (Kd.reads_of_C HR0.out)))
                        have HC139 := Aside0.mk hC29
                        clear hA29 hC29 hi029 hsz29
                        go_wp2_with (first | ((with_reducible refine gate_callee (f := 21) rfl ?_); refine goesL_ (some 41) rfl rfl Tryd.func21 (by kernel_rfl) rfl #[.slice A29 ((l0.take (a1 : Int).toNat).drop ((rd t131 (ji21)) : Int).toNat).length (c0 - (rd t131 (ji21)).toNat)] rfl (by (try simp only [List.map_toArray, List.map_cons, List.map_nil]); first | done | (rw [show ((l0.take (a1 : Int).toNat).drop ((rd t131 (ji21)) : Int).toNat).length = (a1.toNat - (rd t131 (ji21)).toNat) from (by rw [List.length_drop, List.length_take]; have h_ : (a1 : Int) ≤ (l0.length : Int) := of_decide_eq_true (by first | (with_reducible assumption) | assumption); omega)] <;> rfl) | (simp only [hji21]; rfl) | rfl | (simp only [List.length_drop, List.length_take]; rfl)) ?_; (with_reducible refine (correctorref1_Count.calls k2 _ _ ((l0.take (a1 : Int).toNat).drop ((rd t131 (ji21)) : Int).toNat) t140 _ ?side1 ?side2 A27.out).mono ?_); (case side1 => repeat (first | exact (Kd.C_below HR139.out HB.out) | (with_reducible refine Kd.C_alloc ?_ _) | (with_reducible refine Kd.C_drewN ?_ _) | (with_reducible refine Kd.C_drew ?_))); (case side2 => exact HC139.out); rintro e w' ⟨rfl, ⟨nd, rfl⟩⟩; refine ⟨_, rfl, ?_⟩))
                        go_ret2
                        exact ⟨by first | rfl | (simp [errW_none, errW_some] <;> rfl) | (simp only [← hji21]; first | rfl | (simp [errW_none, errW_some] <;> rfl)) | (simp [*, errW_none, errW_some] <;> rfl), by repeat (first | (with_reducible first | exact HB.out | apply below_alloc | apply pw_below_drewN | apply below_drew1) | exact HB.out)⟩
                      · rw [if_neg c26] at H
                        exact absurd H (by simp)
                    · rw [if_neg c25] at H
                      exact absurd H (by simp)
                  · rw [if_neg c24] at H
                    exact absurd H (by simp)
                · rw [if_neg c23] at H
                  exact absurd H (by simp)
              · rw [if_neg c22] at H
                exact absurd H (by simp)

/-! ### correctorref14_Digits: function 16 -/
def correctorref14_Digits.f : Nat → Int → Option (ByteArray)
  | 0, _ => none
  | k + 1, a0 => if a0 < 0 then ((correctorref14_Digits.f k (wrap64 (-a0))).bind fun t141 => (if 1 + t141.size ≤ 9223372036854775807 then (some ((⟨#[45]⟩ : ByteArray) ++ t141)) else (none))) else (if a0 ≥ 10 then ((correctorref14_Digits.f k (wrap64 (Int.tdiv a0 10))).bind fun t142 => ((correctorref14_Digits.f k (Int.tmod a0 10)).bind fun t143 => (if t142.size + t143.size ≤ 9223372036854775807 then (some (t142 ++ t143)) else (none)))) else (some (strOfNums (([(wrap64 (48 + a0)) % 256] : List Int)))))
theorem correctorref14_Digits.mono_l : ∀ k, (∀ y0, LeO (correctorref14_Digits.f k y0) (correctorref14_Digits.f (k + 1) y0))
  | 0 => fun _ r h => by simp [correctorref14_Digits.f] at h
  | k + 1 => by
    have ih0 := correctorref14_Digits.mono_l k
    · intro y0
      unfold correctorref14_Digits.f
      repeat' first
      | (with_reducible exact ih0 _)
      | (with_reducible exact LeO.refl _)
      | (with_reducible exact LeO.none _)
      | (with_reducible refine LeO.ite ?_ ?_)
      | (with_reducible refine LeO.bind ?_ (fun _ => ?_))
      | exact ih0 _
      | exact LeO.none _
      | refine LeO.ite ?_ ?_
      | refine LeO.bind ?_ (fun _ => ?_)
theorem correctorref14_Digits.mono : ∀ a0 k, LeO (correctorref14_Digits.f k a0) (correctorref14_Digits.f (k + 1) a0) := by
  intro a0 k
  have ih0 := correctorref14_Digits.mono_l k
  exact ih0 a0
set_option maxHeartbeats 8000000 in
set_option maxRecDepth 100000 in
theorem correctorref14_Digits.calls (k : Nat) : ∀ (a0 : Int) (r : ByteArray) (w : World) (h : correctorref14_Digits.f k a0 = some r),
    Calls Tryd.prog 16 #[.int .i64 a0] w fun e w' => e = .returned (.string r) ∧ Below w.heap.size w w' := by
  induction k using Nat.strongRecOn with
  | _ k ih =>
  intro a0 r w h
  cases k with
  | zero => exact absurd h (by simp [correctorref14_Digits.f])
  | succ k =>
  simp only [correctorref14_Digits.f] at h
  have HB := Aside0.mk (Below.refl w.heap.size w)
  have H : (if a0 < 0 then ((correctorref14_Digits.f k (wrap64 (-a0))).bind fun t141 => (if 1 + t141.size ≤ 9223372036854775807 then (some ((⟨#[45]⟩ : ByteArray) ++ t141)) else (none))) else (if a0 ≥ 10 then ((correctorref14_Digits.f k (wrap64 (Int.tdiv a0 10))).bind fun t142 => ((correctorref14_Digits.f k (Int.tmod a0 10)).bind fun t143 => (if t142.size + t143.size ≤ 9223372036854775807 then (some (t142 ++ t143)) else (none)))) else (some (strOfNums (([(wrap64 (48 + a0)) % 256] : List Int)))))) = some r := h
  clear h
  by_cases c2 : a0 < 0
  · rw [if_pos c2] at H
    have c2b0 : decide (a0 < 0) = true := decide_eq_true c2
    clear c2
    replace H := Option.bind_eq_some_iff.mp H
    obtain ⟨t141, A30, H⟩ := H
    replace H : (if 1 + t141.size ≤ 9223372036854775807 then (some ((⟨#[45]⟩ : ByteArray) ++ t141)) else (none)) = some r := H
    have A3 := Aside0.mk A30
    clear A30
    by_cases c4 : 1 + t141.size ≤ 9223372036854775807
    · rw [if_pos c4] at H
      have c4b0 := eq_true c4
      have c4b1 : decide (1 + t141.size ≤ 9223372036854775807) = true := decide_eq_true c4
      try have c4b2 : (9223372036854775807 < 1 + t141.size) = False := eq_false (Nat.not_lt.2 c4)
      obtain rfl := Option.some.inj H
      go_enter Tryd.func16, Tryd.ntmps16
      go_wp2_with (first | ((with_reducible refine gate_callee (f := 16) rfl ?_); refine goesL_ (some 7) rfl rfl Tryd.func16 (by kernel_rfl) rfl #[.int .i64 (wrap64 (-a0))] rfl (by (try simp only [List.map_toArray, List.map_cons, List.map_nil]); first | done | rfl | (simp only [List.length_drop, List.length_take]; rfl)) ?_; (with_reducible refine (ih k (by omega) (wrap64 (-a0)) t141 _ A3.out).mono ?_); rintro e w5 ⟨rfl, hb⟩; refine ⟨_, rfl, ?_⟩; have n0_ := Aside0.mk (below_step (by repeat (first | (with_reducible first | exact HB.out | apply below_alloc | apply pw_below_drewN | apply below_drew1) | exact HB.out)) hb); clear HB; have HB := n0_; clear n0_; (try clear hb); (try clear hb2); (try clear hk); (try clear hi)))
      go_ret
      exact ⟨by first | rfl | (simp [errW_none, errW_some] <;> rfl) | (simp [*, errW_none, errW_some] <;> rfl), by repeat (first | (with_reducible first | exact HB.out | apply below_alloc | apply pw_below_drewN | apply below_drew1) | exact HB.out)⟩
    · rw [if_neg c4] at H
      exact absurd H (by simp)
  · rw [if_neg c2] at H
    have c2b0 : decide (a0 < 0) = false := decide_eq_false c2
    clear c2
    by_cases c6 : a0 ≥ 10
    · rw [if_pos c6] at H
      have c6b0 : decide (10 ≤ a0) = true := decide_eq_true c6
      clear c6
      replace H := Option.bind_eq_some_iff.mp H
      obtain ⟨t142, A70, H⟩ := H
      replace H : ((correctorref14_Digits.f k (Int.tmod a0 10)).bind fun t143 => (if t142.size + t143.size ≤ 9223372036854775807 then (some (t142 ++ t143)) else (none))) = some r := H
      have A7 := Aside0.mk A70
      clear A70
      replace H := Option.bind_eq_some_iff.mp H
      obtain ⟨t143, A80, H⟩ := H
      replace H : (if t142.size + t143.size ≤ 9223372036854775807 then (some (t142 ++ t143)) else (none)) = some r := H
      have A8 := Aside0.mk A80
      clear A80
      by_cases c9 : t142.size + t143.size ≤ 9223372036854775807
      · rw [if_pos c9] at H
        have c9b0 := eq_true c9
        have c9b1 : decide (t142.size + t143.size ≤ 9223372036854775807) = true := decide_eq_true c9
        try have c9b2 : (9223372036854775807 < t142.size + t143.size) = False := eq_false (Nat.not_lt.2 c9)
        obtain rfl := Option.some.inj H
        go_enter Tryd.func16, Tryd.ntmps16
        go_wp2_with (first | ((with_reducible refine gate_callee (f := 16) rfl ?_); refine goesL_ (some 13) rfl rfl Tryd.func16 (by kernel_rfl) rfl #[.int .i64 (wrap64 (Int.tdiv a0 10))] rfl (by (try simp only [List.map_toArray, List.map_cons, List.map_nil]); first | done | rfl | (simp only [List.length_drop, List.length_take]; rfl)) ?_; (with_reducible refine (ih k (by omega) (wrap64 (Int.tdiv a0 10)) t142 _ A7.out).mono ?_); rintro e w10 ⟨rfl, hb⟩; refine ⟨_, rfl, ?_⟩; have n0_ := Aside0.mk (below_step (by repeat (first | (with_reducible first | exact HB.out | apply below_alloc | apply pw_below_drewN | apply below_drew1) | exact HB.out)) hb); clear HB; have HB := n0_; clear n0_; (try clear hb); (try clear hb2); (try clear hk); (try clear hi)) | ((with_reducible refine gate_callee (f := 16) rfl ?_); refine goesL_ (some 16) rfl rfl Tryd.func16 (by kernel_rfl) rfl #[.int .i64 (Int.tmod a0 10)] rfl (by (try simp only [List.map_toArray, List.map_cons, List.map_nil]); first | done | rfl | (simp only [List.length_drop, List.length_take]; rfl)) ?_; (with_reducible refine (ih k (by omega) (Int.tmod a0 10) t143 _ A8.out).mono ?_); rintro e w11 ⟨rfl, hb⟩; refine ⟨_, rfl, ?_⟩; have n0_ := Aside0.mk (below_step (by repeat (first | (with_reducible first | exact HB.out | apply below_alloc | apply pw_below_drewN | apply below_drew1) | exact HB.out)) hb); clear HB; have HB := n0_; clear n0_; (try clear hb); (try clear hb2); (try clear hk); (try clear hi)))
        go_ret
        exact ⟨by first | rfl | (simp [errW_none, errW_some] <;> rfl) | (simp [*, errW_none, errW_some] <;> rfl), by repeat (first | (with_reducible first | exact HB.out | apply below_alloc | apply pw_below_drewN | apply below_drew1) | exact HB.out)⟩
      · rw [if_neg c9] at H
        exact absurd H (by simp)
    · rw [if_neg c6] at H
      have c6b0 : decide (10 ≤ a0) = false := decide_eq_false c6
      clear c6
      obtain ⟨y144, hy144⟩ : ∃ y_ : List Int, y_ = (([(wrap64 (48 + a0)) % 256] : List Int)) := ⟨_, rfl⟩
      replace H : (some (strOfNums y144)) = some r := by first | (rw [hy144]; with_reducible exact H) | (have H2_ := (Option.bind_some _ _).symm.trans H; rw [hy144]; with_reducible exact H2_) | (have H2_ := (Option.bind_some _ _).symm.trans H; with_reducible exact H2_) | with_reducible exact H | (rw [hy144]; exact H) | exact H
      have Ny144 := Aside0.mk hy144
      clear hy144
      obtain rfl := Option.some.inj H
      go_enter Tryd.func16, Tryd.ntmps16
      go_wp2_with (first | ((with_reducible refine gate_dst (N := 21) rfl ?_); refine Kd.R_lit (Kd.int .u8) _ 5 ?hg (N := 21) ?hd (xs := ([(wrap64 (48 + a0)) % 256] : List Int)) (inner := [.int .u8 ((wrap64 (48 + a0)) % 256)]) (ok := fun _ => True) (okp := fun _ => True) ?hr ?hp (fun _ hk => hk) trivial (Below.refl _ _) (Nat.le_refl _) (by simp) ?_; (case hd => rfl); (case hg => rfl); (case hr => first | (go_simp; done) | (go_simp; rfl)); (case hp => exact (Reps.one (show Kd.M (Kd.int .u8) _ _ _ ((wrap64 (48 + a0)) % 256) [.int .u8 ((wrap64 (48 + a0)) % 256)] from rfl) (Reps.none _ _))); intro v145 w12 ho13 hb hg_ hnew_; clear hg_ hnew_; (first | rw [← Ny144.out] at ho13 | (simp only [Int.reduceToNat] at ho13; rw [← Ny144.out] at ho13)); have n0_ := Aside0.mk (Kd.R_lower ho13 (below_size (by repeat (first | (with_reducible first | exact HB.out | apply below_alloc | apply pw_below_drewN | apply below_drew1) | exact HB.out)))); have n1_ := Aside0.mk (below_step (by repeat (first | (with_reducible first | exact HB.out | apply below_alloc | apply pw_below_drewN | apply below_drew1) | exact HB.out)) hb); clear HB; have HO146 := n0_; have HB := n1_; clear n0_ n1_; clear hb ho13; have hcv14 := own_string (P := Tryd.prog) Tryd.underlying22 Tryd.underlying5 Tryd.underlying9 (Kd.own_of_R HO146.out)))
      go_ret
      exact ⟨by first | rfl | (simp [errW_none, errW_some] <;> rfl) | (simp [*, errW_none, errW_some] <;> rfl), by repeat (first | (with_reducible first | exact HB.out | apply below_alloc | apply pw_below_drewN | apply below_drew1) | exact HB.out)⟩

end Go.Proofs.YtjecgapnlnmloaaDoor.PRender
