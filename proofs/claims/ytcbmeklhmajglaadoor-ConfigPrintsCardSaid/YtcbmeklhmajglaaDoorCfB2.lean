/- A part of the proof: what the functions of the program compute, shown once each; the last text holds the statement. No condition beyond those of the statement. -/
import Derived.Test.YtcbmeklhmajglaaDoorCfA
set_option linter.unusedSimpArgs false
set_option linter.unusedVariables false
namespace Go.Proofs.YtcbmeklhmajglaaDoor
open Go.RowKit Go.CfgLaw Go.Proofs.YtcbmeklhmajglaaDoorW.PrintWords Go.Proofs.YtcbmeklhmajglaaDoorW.PrintLast Go.Proofs.YtcbmeklhmajglaaDoorW.PrintMore
set_option linter.unusedVariables false
attribute [local go_sem] setCell_drewN alloc_drewN
attribute [local simp] setCell_drewN alloc_drewN
set_option maxRecDepth 100000 in
set_option maxHeartbeats 4000000 in
theorem rl_name_4 (f : Cfg) (b o cp : Nat) (x y : ByteArray) (w : World) (hx : w.cell? ⟨b, o, none⟩ = some (.string x)) (hy : w.cell? ⟨b, o + 1, none⟩ = some (.string y)) (hb : b < w.heap.size)
    (hc : 2 ≤ cp) (hk : fi x.data.toList NM 0 = 4) (v1 v2 : Bool) (hv : (v1 = true ∧ v2 = true ∧ (y.toList == [111, 110]) = true) ∨ (v1 = false ∧ (y.toList == [111, 110]) = false ∧ (y.toList == [111, 102, 102]) = v2)) :
    Calls Tryd.prog 20 #[cv f, .slice (some ⟨b, o, none⟩) 2 cp] w fun e w' => e = .returned (.tuple #[cv (setOn f 4 v1), .bool v2]) ∧ Below w.heap.size w w' := by
  obtain ⟨on, a, b', c, d⟩ := f
  simp only [cv, cells, setOn]
  generalize hq0 : on 0 = o0; generalize hq1 : on 1 = o1; generalize hq2 : on 2 = o2; generalize hq3 : on 3 = o3; generalize hq4 : on 4 = o4
  generalize hq5 : on 5 = o5; generalize hq6 : on 6 = o6; generalize hq7 : on 7 = o7; generalize hq8 : on 8 = o8; generalize hq9 : on 9 = o9
  clear hq0 hq1 hq2 hq3 hq4 hq5 hq6 hq7 hq8 hq9
  have hb0 : b ≠ w.heap.size := by omega
  have hb1 : b ≠ w.heap.size + 1 := by omega
  have hb2 : b ≠ w.heap.size + 1 + 1 := by omega
  have hb0' : w.heap.size ≠ b := by omega
  have hb1' : w.heap.size + 1 ≠ b := by omega
  have hb2' : w.heap.size + 1 + 1 ≠ b := by omega
  have HV := Aside0.mk hv
  clear hv
  go_enter Tryd.func20, Tryd.ntmps20
  go_wp2
  go_region_held3 (fun V => V.cell? ⟨b, o, none⟩ = some (.string x)) (first | exact hHeld | exact al_cell _ (al_cell _ (al_cell _ hx)) | exact al_cell _ (al_cell _ hx) | (go_keep; done)) (first
    | (go_at_call 27; (with_reducible refine (names27 _).mono ?_); rintro e w2 ⟨rfl, hw2⟩; have r0 : w2.cell? ⟨b, o, none⟩ = some (.string x) := (by rw [hw2]; exact al_cell _ (al_cell _ (al_cell _ hx))); subst hw2)
    | (go_at_call 36; (with_reducible refine (which36n x _ hk _ _ (by exact al2_new _ _ _ _)).mono ?_); rintro e w3 ⟨rfl, hD⟩; obtain ⟨m, rfl⟩ := hD.out))
  have hcy : ∀ X Y Z : Obj, (((w.alloc X).alloc Y).alloc Z).cell? ⟨b, o + 1, none⟩ = some (.string y) := fun X Y Z => al_cell _ (al_cell _ (al_cell _ hy))
  clear hk
  unfold namesO
  have hv := HV.out
  clear HV
  (
    rcases hv with ⟨rfl, rfl, e1⟩ | ⟨rfl, e1, e2⟩
    all_goals (
      go_wp2
      go_region
      go_wp2
      (try simp only [Exit.inBlock, Exit.then])
      refine bodyPost_ret (v := .tuple #[.agg _, .bool _]) ?_ rfl ⟨rfl, ?_⟩
      · rw [results_cell_tmp rfl]
        go_simp
      · (repeat' (first | exact Below.refl _ _ | refine Below.drew ?_ | refine Below.alloc ?_ (by simp <;> omega) _ | refine below_drewN ?_ _))))
set_option maxRecDepth 100000 in
set_option maxHeartbeats 4000000 in
theorem rl_name_5 (f : Cfg) (b o cp : Nat) (x y : ByteArray) (w : World) (hx : w.cell? ⟨b, o, none⟩ = some (.string x)) (hy : w.cell? ⟨b, o + 1, none⟩ = some (.string y)) (hb : b < w.heap.size)
    (hc : 2 ≤ cp) (hk : fi x.data.toList NM 0 = 5) (v1 v2 : Bool) (hv : (v1 = true ∧ v2 = true ∧ (y.toList == [111, 110]) = true) ∨ (v1 = false ∧ (y.toList == [111, 110]) = false ∧ (y.toList == [111, 102, 102]) = v2)) :
    Calls Tryd.prog 20 #[cv f, .slice (some ⟨b, o, none⟩) 2 cp] w fun e w' => e = .returned (.tuple #[cv (setOn f 5 v1), .bool v2]) ∧ Below w.heap.size w w' := by
  obtain ⟨on, a, b', c, d⟩ := f
  simp only [cv, cells, setOn]
  generalize hq0 : on 0 = o0; generalize hq1 : on 1 = o1; generalize hq2 : on 2 = o2; generalize hq3 : on 3 = o3; generalize hq4 : on 4 = o4
  generalize hq5 : on 5 = o5; generalize hq6 : on 6 = o6; generalize hq7 : on 7 = o7; generalize hq8 : on 8 = o8; generalize hq9 : on 9 = o9
  clear hq0 hq1 hq2 hq3 hq4 hq5 hq6 hq7 hq8 hq9
  have hb0 : b ≠ w.heap.size := by omega
  have hb1 : b ≠ w.heap.size + 1 := by omega
  have hb2 : b ≠ w.heap.size + 1 + 1 := by omega
  have hb0' : w.heap.size ≠ b := by omega
  have hb1' : w.heap.size + 1 ≠ b := by omega
  have hb2' : w.heap.size + 1 + 1 ≠ b := by omega
  have HV := Aside0.mk hv
  clear hv
  go_enter Tryd.func20, Tryd.ntmps20
  go_wp2
  go_region_held3 (fun V => V.cell? ⟨b, o, none⟩ = some (.string x)) (first | exact hHeld | exact al_cell _ (al_cell _ (al_cell _ hx)) | exact al_cell _ (al_cell _ hx) | (go_keep; done)) (first
    | (go_at_call 27; (with_reducible refine (names27 _).mono ?_); rintro e w2 ⟨rfl, hw2⟩; have r0 : w2.cell? ⟨b, o, none⟩ = some (.string x) := (by rw [hw2]; exact al_cell _ (al_cell _ (al_cell _ hx))); subst hw2)
    | (go_at_call 36; (with_reducible refine (which36n x _ hk _ _ (by exact al2_new _ _ _ _)).mono ?_); rintro e w3 ⟨rfl, hD⟩; obtain ⟨m, rfl⟩ := hD.out))
  have hcy : ∀ X Y Z : Obj, (((w.alloc X).alloc Y).alloc Z).cell? ⟨b, o + 1, none⟩ = some (.string y) := fun X Y Z => al_cell _ (al_cell _ (al_cell _ hy))
  clear hk
  unfold namesO
  have hv := HV.out
  clear HV
  (
    rcases hv with ⟨rfl, rfl, e1⟩ | ⟨rfl, e1, e2⟩
    all_goals (
      go_wp2
      go_region
      go_wp2
      (try simp only [Exit.inBlock, Exit.then])
      refine bodyPost_ret (v := .tuple #[.agg _, .bool _]) ?_ rfl ⟨rfl, ?_⟩
      · rw [results_cell_tmp rfl]
        go_simp
      · (repeat' (first | exact Below.refl _ _ | refine Below.drew ?_ | refine Below.alloc ?_ (by simp <;> omega) _ | refine below_drewN ?_ _))))
set_option maxRecDepth 100000 in
set_option maxHeartbeats 4000000 in
theorem rl_name_6 (f : Cfg) (b o cp : Nat) (x y : ByteArray) (w : World) (hx : w.cell? ⟨b, o, none⟩ = some (.string x)) (hy : w.cell? ⟨b, o + 1, none⟩ = some (.string y)) (hb : b < w.heap.size)
    (hc : 2 ≤ cp) (hk : fi x.data.toList NM 0 = 6) (v1 v2 : Bool) (hv : (v1 = true ∧ v2 = true ∧ (y.toList == [111, 110]) = true) ∨ (v1 = false ∧ (y.toList == [111, 110]) = false ∧ (y.toList == [111, 102, 102]) = v2)) :
    Calls Tryd.prog 20 #[cv f, .slice (some ⟨b, o, none⟩) 2 cp] w fun e w' => e = .returned (.tuple #[cv (setOn f 6 v1), .bool v2]) ∧ Below w.heap.size w w' := by
  obtain ⟨on, a, b', c, d⟩ := f
  simp only [cv, cells, setOn]
  generalize hq0 : on 0 = o0; generalize hq1 : on 1 = o1; generalize hq2 : on 2 = o2; generalize hq3 : on 3 = o3; generalize hq4 : on 4 = o4
  generalize hq5 : on 5 = o5; generalize hq6 : on 6 = o6; generalize hq7 : on 7 = o7; generalize hq8 : on 8 = o8; generalize hq9 : on 9 = o9
  clear hq0 hq1 hq2 hq3 hq4 hq5 hq6 hq7 hq8 hq9
  have hb0 : b ≠ w.heap.size := by omega
  have hb1 : b ≠ w.heap.size + 1 := by omega
  have hb2 : b ≠ w.heap.size + 1 + 1 := by omega
  have hb0' : w.heap.size ≠ b := by omega
  have hb1' : w.heap.size + 1 ≠ b := by omega
  have hb2' : w.heap.size + 1 + 1 ≠ b := by omega
  have HV := Aside0.mk hv
  clear hv
  go_enter Tryd.func20, Tryd.ntmps20
  go_wp2
  go_region_held3 (fun V => V.cell? ⟨b, o, none⟩ = some (.string x)) (first | exact hHeld | exact al_cell _ (al_cell _ (al_cell _ hx)) | exact al_cell _ (al_cell _ hx) | (go_keep; done)) (first
    | (go_at_call 27; (with_reducible refine (names27 _).mono ?_); rintro e w2 ⟨rfl, hw2⟩; have r0 : w2.cell? ⟨b, o, none⟩ = some (.string x) := (by rw [hw2]; exact al_cell _ (al_cell _ (al_cell _ hx))); subst hw2)
    | (go_at_call 36; (with_reducible refine (which36n x _ hk _ _ (by exact al2_new _ _ _ _)).mono ?_); rintro e w3 ⟨rfl, hD⟩; obtain ⟨m, rfl⟩ := hD.out))
  have hcy : ∀ X Y Z : Obj, (((w.alloc X).alloc Y).alloc Z).cell? ⟨b, o + 1, none⟩ = some (.string y) := fun X Y Z => al_cell _ (al_cell _ (al_cell _ hy))
  clear hk
  unfold namesO
  have hv := HV.out
  clear HV
  (
    rcases hv with ⟨rfl, rfl, e1⟩ | ⟨rfl, e1, e2⟩
    all_goals (
      go_wp2
      go_region
      go_wp2
      (try simp only [Exit.inBlock, Exit.then])
      refine bodyPost_ret (v := .tuple #[.agg _, .bool _]) ?_ rfl ⟨rfl, ?_⟩
      · rw [results_cell_tmp rfl]
        go_simp
      · (repeat' (first | exact Below.refl _ _ | refine Below.drew ?_ | refine Below.alloc ?_ (by simp <;> omega) _ | refine below_drewN ?_ _))))
end Go.Proofs.YtcbmeklhmajglaaDoor
