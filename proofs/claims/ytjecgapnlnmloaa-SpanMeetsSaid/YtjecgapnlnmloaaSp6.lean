/- A part of the proof: an interpreter of the program, shown right once, and the laws that it computes. -/
import Derived.Test.YtjecgapnlnmloaaSp4
import Derived.WalkKit
import Derived.ProofKit
namespace Go.Proofs.Ytjecgapnlnmloaa
open Go.RowKit Go.Eng
set_option linter.unusedVariables false
theorem cut3_inv : ∃ s1, runCs Try.prog (memo rowsM) (run Try.prog (memo rowsM) 10000) 53 cs3 env3 s₀ kn3 = .ok (.tup [.ptr 2 0, .ptr 3 0]) s1 ∧ s1.rd 2 0 2 = some [.sym 4, .sym 5] ∧ s1.rd 3 0 2 = some [.sym 6, .sym 7] := by
  have h := cut3
  generalize runCs Try.prog (memo rowsM) (run Try.prog (memo rowsM) 10000) 53 cs3 env3 s₀ kn3 = r at h
  cases r with
  | no => cases h
  | ok v s =>
    unfold okCut at h
    simp only [Bool.and_eq_true] at h
    obtain ⟨h1, h2, h3⟩ := h
    unfold cellsAre at h2 h3
    split at h2 <;> (try (cases h2; done))
    rename_i l2 e2
    split at h3 <;> (try (cases h3; done))
    rename_i l3 e3
    exact ⟨s, by rw [ieq_eq h1], by rw [e2, ieqs_eq h2], by rw [e3, ieqs_eq h3]⟩
theorem tail_of {α : Type} {l : List α} {n : Nat} (h : l.length = n + 1) : ∃ x r, l = x :: r ∧ r.length = n := by
  cases l with
  | nil => cases h
  | cons x r => exact ⟨x, r, rfl, by simpa using h⟩
theorem list53 {α : Type} (l : List α) (h : l.length = 53) : ∃ t0 t1 t2 t3 t4 t5 t6 t7 t8 t9 t10 t11 t12 t13 t14 t15 t16 t17 t18 t19 t20 t21 t22 t23 t24 t25 t26 t27 t28 t29 t30 t31 t32 t33 t34 t35 t36 t37 t38 t39 t40 t41 t42 t43 t44 t45 t46 t47 t48 t49 t50 t51 t52, l = [t0, t1, t2, t3, t4, t5, t6, t7, t8, t9, t10, t11, t12, t13, t14, t15, t16, t17, t18, t19, t20, t21, t22, t23, t24, t25, t26, t27, t28, t29, t30, t31, t32, t33, t34, t35, t36, t37, t38, t39, t40, t41, t42, t43, t44, t45, t46, t47, t48, t49, t50, t51, t52] := by
  obtain ⟨t0, r0, rfl, h0⟩ := tail_of h
  obtain ⟨t1, r1, rfl, h1⟩ := tail_of h0
  obtain ⟨t2, r2, rfl, h2⟩ := tail_of h1
  obtain ⟨t3, r3, rfl, h3⟩ := tail_of h2
  obtain ⟨t4, r4, rfl, h4⟩ := tail_of h3
  obtain ⟨t5, r5, rfl, h5⟩ := tail_of h4
  obtain ⟨t6, r6, rfl, h6⟩ := tail_of h5
  obtain ⟨t7, r7, rfl, h7⟩ := tail_of h6
  obtain ⟨t8, r8, rfl, h8⟩ := tail_of h7
  obtain ⟨t9, r9, rfl, h9⟩ := tail_of h8
  obtain ⟨t10, r10, rfl, h10⟩ := tail_of h9
  obtain ⟨t11, r11, rfl, h11⟩ := tail_of h10
  obtain ⟨t12, r12, rfl, h12⟩ := tail_of h11
  obtain ⟨t13, r13, rfl, h13⟩ := tail_of h12
  obtain ⟨t14, r14, rfl, h14⟩ := tail_of h13
  obtain ⟨t15, r15, rfl, h15⟩ := tail_of h14
  obtain ⟨t16, r16, rfl, h16⟩ := tail_of h15
  obtain ⟨t17, r17, rfl, h17⟩ := tail_of h16
  obtain ⟨t18, r18, rfl, h18⟩ := tail_of h17
  obtain ⟨t19, r19, rfl, h19⟩ := tail_of h18
  obtain ⟨t20, r20, rfl, h20⟩ := tail_of h19
  obtain ⟨t21, r21, rfl, h21⟩ := tail_of h20
  obtain ⟨t22, r22, rfl, h22⟩ := tail_of h21
  obtain ⟨t23, r23, rfl, h23⟩ := tail_of h22
  obtain ⟨t24, r24, rfl, h24⟩ := tail_of h23
  obtain ⟨t25, r25, rfl, h25⟩ := tail_of h24
  obtain ⟨t26, r26, rfl, h26⟩ := tail_of h25
  obtain ⟨t27, r27, rfl, h27⟩ := tail_of h26
  obtain ⟨t28, r28, rfl, h28⟩ := tail_of h27
  obtain ⟨t29, r29, rfl, h29⟩ := tail_of h28
  obtain ⟨t30, r30, rfl, h30⟩ := tail_of h29
  obtain ⟨t31, r31, rfl, h31⟩ := tail_of h30
  obtain ⟨t32, r32, rfl, h32⟩ := tail_of h31
  obtain ⟨t33, r33, rfl, h33⟩ := tail_of h32
  obtain ⟨t34, r34, rfl, h34⟩ := tail_of h33
  obtain ⟨t35, r35, rfl, h35⟩ := tail_of h34
  obtain ⟨t36, r36, rfl, h36⟩ := tail_of h35
  obtain ⟨t37, r37, rfl, h37⟩ := tail_of h36
  obtain ⟨t38, r38, rfl, h38⟩ := tail_of h37
  obtain ⟨t39, r39, rfl, h39⟩ := tail_of h38
  obtain ⟨t40, r40, rfl, h40⟩ := tail_of h39
  obtain ⟨t41, r41, rfl, h41⟩ := tail_of h40
  obtain ⟨t42, r42, rfl, h42⟩ := tail_of h41
  obtain ⟨t43, r43, rfl, h43⟩ := tail_of h42
  obtain ⟨t44, r44, rfl, h44⟩ := tail_of h43
  obtain ⟨t45, r45, rfl, h45⟩ := tail_of h44
  obtain ⟨t46, r46, rfl, h46⟩ := tail_of h45
  obtain ⟨t47, r47, rfl, h47⟩ := tail_of h46
  obtain ⟨t48, r48, rfl, h48⟩ := tail_of h47
  obtain ⟨t49, r49, rfl, h49⟩ := tail_of h48
  obtain ⟨t50, r50, rfl, h50⟩ := tail_of h49
  obtain ⟨t51, r51, rfl, h51⟩ := tail_of h50
  obtain ⟨t52, r52, rfl, h52⟩ := tail_of h51
  obtain rfl := List.length_eq_zero_iff.1 h52
  exact ⟨t0, t1, t2, t3, t4, t5, t6, t7, t8, t9, t10, t11, t12, t13, t14, t15, t16, t17, t18, t19, t20, t21, t22, t23, t24, t25, t26, t27, t28, t29, t30, t31, t32, t33, t34, t35, t36, t37, t38, t39, t40, t41, t42, t43, t44, t45, t46, t47, t48, t49, t50, t51, t52, rfl⟩
theorem ptr_cells {γ : Gam} {ρ : Rho} {s : St} {w : World} (h : Rel Try.prog γ ρ s w) {b : Nat} {v : Value} {l : List Int} {i j : Nat} (hg : γ = gam l) (hv : VR ρ γ (.ptr b 0) v) (hr : s.rd b 0 2 = some [.sym i, .sym j]) :
    ∃ pb po, v = .pointer (some ⟨pb, po, none⟩) ∧ pb < w.heap.size ∧ w.cell? ⟨pb, po, none⟩ = some (.int .i64 (l.getD i 0)) ∧ w.cell? ⟨pb, po + 1, none⟩ = some (.int .i64 (l.getD j 0)) := by
  subst hg
  generalize hq : IV.ptr b 0 = q at hv
  cases hv <;> cases hq
  rename_i p hb
  obtain ⟨arr, e, fr, h1, h2, h3⟩ := h.rd hb hr
  obtain ⟨v0, k0, m0⟩ := h3.get (k := 0) rfl
  obtain ⟨v1, k1, m1⟩ := h3.get (k := 1) rfl
  have e0 : v0 = .int .i64 (l.getD i 0) := by
    generalize hq : IV.sym i = q at m0
    cases m0 <;> cases hq
    rfl
  have e1 : v1 = .int .i64 (l.getD j 0) := by
    generalize hq : IV.sym j = q at m1
    cases m1 <;> cases hq
    rfl
  subst e0 e1
  refine ⟨p.blk, p.shift + 0, rfl, (h.bound b p hb).2, ?_, ?_⟩
  · rw [cell_eq h1]
    simp only [Array.toList_extract, List.extract_eq_take_drop] at k0
    rw [List.getElem?_take_of_lt (by omega), List.getElem?_drop] at k0
    simpa using k0
  · rw [cell_eq h1]
    simp only [Array.toList_extract, List.extract_eq_take_drop] at k1
    rw [List.getElem?_take_of_lt (by omega), List.getElem?_drop] at k1
    simpa using k1
theorem goes_below {ρ' : Rho} {s' : St} {w w' : World} (h : Goes (fun _ => none) s₀ w ρ' s' w') : Below w.heap.size w w' :=
  ⟨h.os, h.tape, h.output, h.size, fun k hk => h.others k hk fun b p hb => by cases hb⟩
/-- Whether one of the first so many lies in the other span. -/
def hit (x1 y1 y2 : Int) : Nat → Bool
  | 0 => false
  | k + 1 => hit x1 y1 y2 k || (decide (y1 ≤ x1 + k) && decide (x1 + k < y2))
theorem hit_iff (x1 y1 y2 : Int) : ∀ k : Nat, hit x1 y1 y2 k = true ↔ ∃ j : Nat, j < k ∧ y1 ≤ x1 + j ∧ x1 + j < y2
  | 0 => by simp [hit]
  | k + 1 => by
    simp only [hit, Bool.or_eq_true, hit_iff x1 y1 y2 k, Bool.and_eq_true, decide_eq_true_eq]
    constructor
    · rintro (⟨j, h1, h2, h3⟩ | ⟨h2, h3⟩)
      · exact ⟨j, by omega, h2, h3⟩
      · exact ⟨k, by omega, h2, h3⟩
    · rintro ⟨j, h1, h2, h3⟩
      by_cases hj : j < k
      · exact .inl ⟨j, hj, h2, h3⟩
      · obtain rfl : j = k := by omega
        exact .inr ⟨h2, h3⟩
theorem hit_meet (x1 x2 y1 y2 : Int) (k : Nat) (hk : x1 + k = x2) (hx : x1 < x2) (hy : y1 < y2) : (decide (x1 < y2) && decide (y1 < x2)) = hit x1 y1 y2 k := by
  rw [Bool.eq_iff_iff, hit_iff]
  simp only [Bool.and_eq_true, decide_eq_true_eq]
  constructor
  · rintro ⟨h1, h2⟩
    by_cases hle : y1 ≤ x1
    · exact ⟨0, by omega, by simpa using hle, by simpa using h1⟩
    · exact ⟨(y1 - x1).toNat, by omega, by omega, by omega⟩
  · rintro ⟨j, h1, h2, h3⟩
    omega
set_option maxRecDepth 100000 in
set_option maxHeartbeats 40000000 in
theorem meets_tail (x1 x2 y1 y2 : Int) (hx : 0 ≤ x1) (hx2 : x1 ≤ x2) (hx3 : x2 < 80) (hy : 0 ≤ y1) (hy2 : y1 ≤ y2) (hy3 : y2 < 80) (pb po qb qo : Nat) (w w0 : World) (hpb : pb < w.heap.size) (hqb : qb < w.heap.size) (h1 : w.cell? ⟨pb, po, none⟩ = some (.int .i64 x1)) (h2 : w.cell? ⟨pb, po + 1, none⟩ = some (.int .i64 x2))
    (h3 : w.cell? ⟨qb, qo, none⟩ = some (.int .i64 y1)) (h4 : w.cell? ⟨qb, qo + 1, none⟩ = some (.int .i64 y2)) (hB : Below w0.heap.size w0 w) (t0 t1 t2 t3 t4 t7 t8 t9 t10 t11 t12 t13 t14 t15 t16 t17 t18 t19 t20 t21 t22 t23 t24 t25 t26 t27 t28 t29 t30 t31 t32 t33 t34 t35 t36 t37 t38 t39 t40 t41 t42 t43 t44 t45 t46 t47 t48 t49 t50 t51 t52 : Value) :
    d3.wp Try.prog (bodyPost Try.prog Try.f3 fun e w' => e = .returned (.bool true) ∧ Below w0.heap.size w0 w') { tmps := #[t0, t1, t2, t3, t4, .pointer (some ⟨pb, po, none⟩), .pointer (some ⟨qb, qo, none⟩), t7, t8, t9, t10, t11, t12, t13, t14, t15, t16, t17, t18, t19, t20, t21, t22, t23, t24, t25, t26, t27, t28, t29, t30, t31, t32, t33, t34, t35, t36, t37, t38, t39, t40, t41, t42, t43, t44, t45, t46, t47, t48, t49, t50, t51, t52], defers := [] } w := by
  unfold d3 Try.f3
  dsimp only
  by_cases hxx : x1 = x2
  · subst hxx
    go_wp2
    go_ret
    exact ⟨rfl, hB⟩
  · by_cases hyy : y1 = y2
    · subst hyy
      go_wp2
      go_ret
      exact ⟨rfl, hB⟩
    · go_wp2
      · go_ret
        exact ⟨rfl, hB⟩
      go_loopw [7, 8] (fun cm i wr => ∃ k : Nat, cm = .bool (hit x1 y1 y2 k) ∧ i = .int .i64 (x1 + k) ∧ x1 + k ≤ x2 ∧ wr = w) (fun cm i _ => (x2 - intOf i).toNat)
      case atStart => exact ⟨0, rfl, by simp, by simpa using hx2, rfl⟩
      case round =>
        obtain ⟨k, rfl, rfl, hk, rfl⟩ := hrel
        by_cases hlt : x1 + k < x2
        · have hm : (x2 - intOf (Value.int .i64 (x1 + k + 1))).toNat < (x2 - intOf (Value.int .i64 (x1 + k))).toNat := by simp only [intOf]; omega
          cases hv : hit x1 y1 y2 k with
          | true =>
            go_wp2
            go_roundw
            case rel => exact ⟨k + 1, by simp [hit, hv], by simp [Int.add_assoc], by omega, trivial⟩
            case measure => exact hm
          | false =>
            by_cases hge : y1 ≤ x1 + k
            · by_cases hlt2 : x1 + k < y2
              · go_wp2
                go_roundw
                case rel => exact ⟨k + 1, by simp [hit, hv, hge, hlt2], by simp [Int.add_assoc], by omega, trivial⟩
                case measure => exact hm
              · go_wp2
                go_roundw
                case rel => exact ⟨k + 1, by simp [hit, hv, hge, hlt2], by simp [Int.add_assoc], by omega, trivial⟩
                case measure => exact hm
            · go_wp2
              go_roundw
              case rel => exact ⟨k + 1, by simp [hit, hv, hge], by simp [Int.add_assoc], by omega, trivial⟩
              case measure => exact hm
        · have hend : x1 + k = x2 := by omega
          have hh : (decide (x1 < y2) && decide (y1 < x2)) = hit x1 y1 y2 k := hit_meet x1 x2 y1 y2 k hend (by omega) (by omega)
          go_wp2_with (go_at_call 12; refine (meet12 x1 x2 y1 y2 _).mono ?_; rintro e w' ⟨rfl, rfl⟩)
          go_ret
          refine ⟨?_, hB.trans ((w2_below _ x1 x2 y1 y2).mono hB.size)⟩
          simp
theorem meets_walk (a b c d : Int) (w : World) : Calls Try.prog 3 #[sp a b, sp c d] w fun e w' => e = .returned (.bool true) ∧ Below w.heap.size w w' := by
  obtain ⟨x1, x2, hx1, hx2, hx3, hx4, hx⟩ := good11 a b
  obtain ⟨y1, y2, hy1, hy2, hy3, hy4, hy⟩ := good11 c d
  have hX : ExtOk Try.prog (gam [a, b, c, d, x1, x2, y1, y2]) (memo rowsM) := by
    refine memo_ok fun f args v h ρ args' hv w => ?_
    unfold rowsM at h
    split at h <;> (try (cases h; done)) <;> cases h
    · cases hv; exact known_row w
    · rw [one_inv hv]; simp only [List.getD_cons_zero, List.getD_cons_succ]; exact sp_row rfl rfl (w2_below _ _ _ _ _) (hx w)
    · rw [one_inv hv]; simp only [List.getD_cons_zero, List.getD_cons_succ]; exact sp_row rfl rfl (w2_below _ _ _ _ _) (hy w)
  obtain ⟨s1, hs, c2, c3⟩ := cut3_inv
  refine calls_cut (args' := [sp a b, sp c d]) follows hX Try.func3 cs3 d3 body3 fa3_eq env3_eq hs (.cons _ _ _ _ (sp_rel _ 0 1) (.cons _ _ _ _ (sp_rel _ 2 3) .nil)) ?_
  intro env' s' hk ρ' w' a' g rel er
  unfold kn3 at hk
  split at hk <;> (try (cases hk; done))
  rename_i f5 g5 e5
  split at hk <;> (try (cases hk; done))
  rename_i f6 g6 e6
  injection hk with k1 k2
  injection k1 with k1
  injection k1 with k3 k1
  injection k1 with k4 k1
  subst k2
  have h5 := er.slots 5 f5 g5 e5
  have h6 := er.slots 6 f6 g6 e6
  rw [k3] at h5
  rw [k4] at h6
  obtain ⟨pb, po, p1, p2, p3, p4⟩ := ptr_cells rel rfl h5 c2
  obtain ⟨qb, qo, q1, q2, q3, q4⟩ := ptr_cells rel rfl h6 c3
  obtain ⟨⟨ts⟩, ds⟩ := a'
  have hsz : ts.length = 53 := er.size
  have hds : ds = [] := er.defers
  subst hds
  obtain ⟨t0, t1, t2, t3, t4, t5, t6, t7, t8, t9, t10, t11, t12, t13, t14, t15, t16, t17, t18, t19, t20, t21, t22, t23, t24, t25, t26, t27, t28, t29, t30, t31, t32, t33, t34, t35, t36, t37, t38, t39, t40, t41, t42, t43, t44, t45, t46, t47, t48, t49, t50, t51, t52, rfl⟩ := list53 ts hsz
  change t5 = _ at p1
  change t6 = _ at q1
  subst p1 q1
  exact meets_tail x1 x2 y1 y2 hx1 hx3 hx4 hy1 hy3 hy4 pb po qb qo w' w p2 q2 p3 p4 q3 q4 (goes_below g) t0 t1 t2 t3 t4 t7 t8 t9 t10 t11 t12 t13 t14 t15 t16 t17 t18 t19 t20 t21 t22 t23 t24 t25 t26 t27 t28 t29 t30 t31 t32 t33 t34 t35 t36 t37 t38 t39 t40 t41 t42 t43 t44 t45 t46 t47 t48 t49 t50 t51 t52
end Go.Proofs.Ytjecgapnlnmloaa
