/- A part of the proof: what the functions of the program compute, shown once each; the last text holds the statement. No condition beyond those of the statement. -/
import Derived.Test.YtcbmeklhmajglaaDoorCfB1
import Derived.Test.YtcbmeklhmajglaaDoorCfB2
import Derived.Test.YtcbmeklhmajglaaDoorCfB3
import Derived.Test.YtcbmeklhmajglaaDoorCfA
import Derived.WalkKit
import Derived.ProofKit
import Derived.Below
import Derived.KernelRfl
import Derived.Deep.DeepMust
set_option linter.unusedSimpArgs false
set_option linter.unusedVariables false
section
namespace Go.Proofs.YtcbmeklhmajglaaDoor
open Go.RowKit Go.CfgLaw Go.Proofs.YtcbmeklhmajglaaDoorW.PrintWords Go.Proofs.YtcbmeklhmajglaaDoorW.PrintLast Go.Proofs.YtcbmeklhmajglaaDoorW.PrintMore
set_option linter.unusedVariables false
theorem rl_name0 (f : Cfg) (b o cp : Nat) (x y : ByteArray) (k : Nat) (w : World) (hx : w.cell? ⟨b, o, none⟩ = some (.string x)) (hy : w.cell? ⟨b, o + 1, none⟩ = some (.string y)) (hb : b < w.heap.size)
    (hc : 2 ≤ cp) (hk : fi x.data.toList NM 0 = k) (h0 : 0 < k) (h9 : k ≤ 9) (v1 v2 : Bool) (hv : (v1 = true ∧ v2 = true ∧ (y.toList == [111, 110]) = true) ∨ (v1 = false ∧ (y.toList == [111, 110]) = false ∧ (y.toList == [111, 102, 102]) = v2)) :
    Calls Tryd.prog 20 #[cv f, .slice (some ⟨b, o, none⟩) 2 cp] w fun e w' => e = .returned (.tuple #[cv (setOn f k v1), .bool v2]) ∧ Below w.heap.size w w' := by
  have hkk : k = 1 ∨ k = 2 ∨ k = 3 ∨ k = 4 ∨ k = 5 ∨ k = 6 ∨ k = 7 ∨ k = 8 ∨ k = 9 := by omega
  rcases hkk with rfl | rfl | rfl | rfl | rfl | rfl | rfl | rfl | rfl
  · exact rl_name_1 f b o cp x y w hx hy hb hc hk v1 v2 hv
  · exact rl_name_2 f b o cp x y w hx hy hb hc hk v1 v2 hv
  · exact rl_name_3 f b o cp x y w hx hy hb hc hk v1 v2 hv
  · exact rl_name_4 f b o cp x y w hx hy hb hc hk v1 v2 hv
  · exact rl_name_5 f b o cp x y w hx hy hb hc hk v1 v2 hv
  · exact rl_name_6 f b o cp x y w hx hy hb hc hk v1 v2 hv
  · exact rl_name_7 f b o cp x y w hx hy hb hc hk v1 v2 hv
  · exact rl_name_8 f b o cp x y w hx hy hb hc hk v1 v2 hv
  · exact rl_name_9 f b o cp x y w hx hy hb hc hk v1 v2 hv
end Go.Proofs.YtcbmeklhmajglaaDoor
end
section
namespace Go.Proofs.YtcbmeklhmajglaaDoor
open Go.RowKit Go.CfgLaw Go.Proofs.YtcbmeklhmajglaaDoorW.PrintWords Go.Proofs.YtcbmeklhmajglaaDoorW.PrintLast Go.Proofs.YtcbmeklhmajglaaDoorW.PrintMore
set_option linter.unusedVariables false
attribute [local go_sem] setCell_drewN alloc_drewN
attribute [local simp] setCell_drewN alloc_drewN
theorem al3_new (w : World) (X Y Z T : Obj) : ((((w.alloc X).alloc Y).alloc Z).alloc T).heap[w.heap.size + 1 + 1 + 1]? = some T := by
  have h := heap_alloc_new (((w.alloc X).alloc Y).alloc Z) T
  have e : (((w.alloc X).alloc Y).alloc Z).heap.size = w.heap.size + 1 + 1 + 1 := by simp
  rw [e] at h
  exact h
def setI (f : Cfg) (j n : Int) : Cfg := if j = 0 then { f with a := n } else if j = 1 then { f with b := n } else if j = 2 then { f with c := n } else if j = 3 then { f with d := n } else f
set_option maxRecDepth 100000 in
set_option maxHeartbeats 4000000 in
theorem rl_num0 (f : Cfg) (b o cp : Nat) (x y : ByteArray) (k0 : Int) (w : World) (hx : w.cell? ⟨b, o, none⟩ = some (.string x)) (hy : w.cell? ⟨b, o + 1, none⟩ = some (.string y)) (hb : b < w.heap.size)
    (hc : 2 ≤ cp) (hk : fi x.data.toList NM 0 = k0) (h0 : k0 ≤ 0) (j n : Int) (hj : fi x.data.toList NU 0 = j) (hn : numV y = n) (hjj : j = 0 ∨ j = 1 ∨ j = 2 ∨ j = 3 ∨ j = -1) :
    Calls Tryd.prog 20 #[cv f, .slice (some ⟨b, o, none⟩) 2 cp] w fun e w' => e = .returned (.tuple #[cv (setI f j n), .bool (decide (0 ≤ j) && decide (0 ≤ n))]) ∧ Below w.heap.size w w' := by
  obtain ⟨on, a, b', c, d⟩ := f
  have hb0 : b ≠ w.heap.size := by omega
  have hb1 : b ≠ w.heap.size + 1 := by omega
  have hb2 : b ≠ w.heap.size + 1 + 1 := by omega
  have hb3 : b ≠ w.heap.size + 1 + 1 + 1 := by omega
  have hb0' : w.heap.size ≠ b := by omega
  have hb1' : w.heap.size + 1 ≠ b := by omega
  have hb2' : w.heap.size + 1 + 1 ≠ b := by omega
  have hb3' : w.heap.size + 1 + 1 + 1 ≠ b := by omega
  have HJ := Aside0.mk hjj
  clear hjj
  obtain ⟨G, hG⟩ : ∃ G : Cfg, setI ⟨on, a, b', c, d⟩ j n = G := ⟨_, rfl⟩
  rw [hG]
  have HG := Aside0.mk hG
  clear hG
  simp only [cv, cells]
  generalize hq0 : on 0 = o0; generalize hq1 : on 1 = o1; generalize hq2 : on 2 = o2; generalize hq3 : on 3 = o3; generalize hq4 : on 4 = o4
  generalize hq5 : on 5 = o5; generalize hq6 : on 6 = o6; generalize hq7 : on 7 = o7; generalize hq8 : on 8 = o8; generalize hq9 : on 9 = o9
  have HQ := Aside0.mk (And.intro hq0 (And.intro hq1 (And.intro hq2 (And.intro hq3 (And.intro hq4 (And.intro hq5 (And.intro hq6 (And.intro hq7 (And.intro hq8 hq9)))))))))
  clear hq0 hq1 hq2 hq3 hq4 hq5 hq6 hq7 hq8 hq9
  have q0 : ¬ 0 < k0 := by omega
  clear h0
  go_enter Tryd.func20, Tryd.ntmps20
  go_wp2
  go_region_held3 (fun V => V.cell? ⟨b, o, none⟩ = some (.string x)) (first | exact hHeld | exact al_cell _ (al_cell _ (al_cell _ hx)) | exact al_cell _ (al_cell _ hx) | (go_keep; done)) (first
    | (go_at_call 27; (with_reducible refine (names27 _).mono ?_); rintro e w2 ⟨rfl, hw2⟩; have r0 : w2.cell? ⟨b, o, none⟩ = some (.string x) := (by rw [hw2]; exact al_cell _ (al_cell _ (al_cell _ hx))); subst hw2)
    | (go_at_call 36; (with_reducible refine (which36n x _ hk _ _ (by exact al2_new _ _ _ _)).mono ?_); rintro e w3 ⟨rfl, hD⟩; obtain ⟨m, rfl⟩ := hD.out))
  have hcy : ∀ X Y Z : Obj, (((w.alloc X).alloc Y).alloc Z).cell? ⟨b, o + 1, none⟩ = some (.string y) := fun X Y Z => al_cell _ (al_cell _ (al_cell _ hy))
  have hcx : ∀ X Y Z : Obj, (((w.alloc X).alloc Y).alloc Z).cell? ⟨b, o, none⟩ = some (.string x) := fun X Y Z => al_cell _ (al_cell _ (al_cell _ hx))
  unfold namesO
  go_wp2_with (go_at_call 37; (with_reducible refine (number37 y _).mono ?_); rintro e w4 ⟨rfl, hD⟩; obtain ⟨m4, rfl⟩ := hD.out)
  go_region_held3 (fun V => V.cell? ⟨b, o, none⟩ = some (.string x)) (first | exact hHeld | exact al_cell _ (al_cell _ (al_cell _ hx)) | exact al_cell _ (al_cell _ (al_cell _ (al_cell _ hx))) | (go_keep; done)) (first
    | (go_at_call 28; (with_reducible refine (numbers28 _).mono ?_); rintro e w2 ⟨rfl, hw2⟩; have r0 : w2.cell? ⟨b, o, none⟩ = some (.string x) := (by rw [hw2]; exact al_cell _ (al_cell _ (al_cell _ (al_cell _ hx)))); subst hw2)
    | (go_at_call 36; (with_reducible refine (which36v x _ hj _ _ (by rw [World.heap_drewN]; exact al3_new _ _ _ _ _)).mono ?_); rintro e w3 ⟨rfl, hD⟩; obtain ⟨m, rfl⟩ := hD.out))
  unfold numbersO
  have hjj := HJ.out
  rcases hjj with rfl | rfl | rfl | rfl | rfl
  all_goals (
      go_wp2
      (try simp only [Exit.inBlock, Exit.then])
      have hG := HG.out
      have hQ := HQ.out
      subst hG
      obtain ⟨rfl, rfl, rfl, rfl, rfl, rfl, rfl, rfl, rfl, rfl⟩ := hQ
      refine bodyPost_ret (v := .tuple #[.agg _, .bool _]) ?_ rfl ⟨rfl, ?_⟩
      · rw [results_cell_tmp rfl]
        go_simp
        try simp [setI]
      · (repeat' (first | exact Below.refl _ _ | refine Below.drew ?_ | refine Below.alloc ?_ (by simp <;> omega) _ | refine below_drewN ?_ _)))
end Go.Proofs.YtcbmeklhmajglaaDoor
end
section
namespace Go.Proofs.YtcbmeklhmajglaaDoor
open Go.RowKit Go.CfgLaw Go.Proofs.YtcbmeklhmajglaaDoorW.PrintWords Go.Proofs.YtcbmeklhmajglaaDoorW.PrintLast Go.Proofs.YtcbmeklhmajglaaDoorW.PrintMore
set_option linter.unusedVariables false
theorem cell_spot {w : World} {ad : Addr} {v : Value} (h : w.cell? ad = some v) : ad = ⟨ad.block, ad.off, none⟩ := by
  obtain ⟨b, o, s⟩ := ad
  cases s with
  | none => rfl
  | some k =>
    unfold World.cell? at h
    split at h
    · simp at h
    · cases h
theorem two_of {w : World} {A : Option Addr} {x y : ByteArray} (hC : Kd.C Kd.string w A 2 [x, y]) : ∃ b o, A = some ⟨b, o, none⟩ ∧ w.cell? ⟨b, o, none⟩ = some (.string x) ∧ w.cell? ⟨b, o + 1, none⟩ = some (.string y) ∧ b < w.heap.size := by
  obtain ⟨ad, rfl, h0⟩ := Kd.at_string hC 0 (by omega) (by omega)
  obtain ⟨ad', e, h1⟩ := Kd.at_string hC 1 (by omega) (by omega)
  cases e
  have h0' : w.cell? ad = some (.string x) := h0
  have hs := cell_spot h0'
  have h1' : w.cell? ⟨ad.block, ad.off + 1, none⟩ = some (.string y) := h1
  refine ⟨ad.block, ad.off, by rw [← hs], by rw [← hs]; exact h0', h1', lt_of_cell h0'⟩
theorem beq_on (y : ByteArray) (l : List UInt8) : (y.toList == l) = decide (y.data.toList = l) := by
  rw [ByteArray.toList_eq]
  by_cases h : y.data.toList = l
  · rw [decide_eq_true h]; exact beq_iff_eq.2 h
  · rw [decide_eq_false h]; exact beq_eq_false_iff_ne.2 h
theorem numV_neg (y : ByteArray) : numV y = -1 ↔ numF y.data.toList = none := by
  unfold numV
  cases h : numF y.data.toList with
  | none => simp
  | some n => simp
theorem fiu_cases (x : List UInt8) : fi x NU 0 = 0 ∨ fi x NU 0 = 1 ∨ fi x NU 0 = 2 ∨ fi x NU 0 = 3 ∨ fi x NU 0 = -1 := by
  have h := fi_bound x NU 0
  have e : NU.length = 4 := rfl
  rw [e] at h
  omega
theorem lineF_two (f : Cfg) (x y : List UInt8) : lineF f [x, y] = if 0 < fi x NM 0 then (if y = [111, 110] ∨ y = [111, 102, 102] then some (setOn f (fi x NM 0).toNat (decide (y = [111, 110]))) else none)
    else match numF y with
      | none => none
      | some n => setN f (fi x NU 0) n := rfl
theorem refline20 (f : Cfg) (A : Option Addr) (c : Nat) (l : List ByteArray) (w : World) (hC : Kd.C Kd.string w A l.length l) (hc : l.length ≤ c) (hl : l.length < 1000000) :
    Calls Tryd.prog 20 #[cv f, .slice A l.length c] w fun e w' => ∃ g, e = .returned (.tuple #[cv g, .bool (lineF f (l.map (·.data.toList))).isSome]) ∧ (∀ f', lineF f (l.map (·.data.toList)) = some f' → g = f') ∧ Below w.heap.size w w' := by
  match l, hC, hc, hl with
  | [], hC, hc, hl =>
    refine (rl_other f A 0 c w (by omega) (by omega)).mono ?_
    rintro e w' ⟨rfl, hB⟩
    exact ⟨f, rfl, fun f' h => (by cases h; rfl), hB⟩
  | [x], hC, hc, hl =>
    refine (rl_other f A 1 c w (by omega) (by omega)).mono ?_
    rintro e w' ⟨rfl, hB⟩
    exact ⟨f, rfl, fun f' h => (by cases h), hB⟩
  | [x, y], hC, hc, hl =>
    obtain ⟨b, o, rfl, h0, h1, hb⟩ := two_of hC
    simp only [List.map_cons, List.map_nil, List.length_cons, List.length_nil]
    have hfb := fi_bound x.data.toList NM 0
    have eN : NM.length = 10 := rfl
    rw [eN] at hfb
    by_cases hk : 0 < fi x.data.toList NM 0
    · have hkn : fi x.data.toList NM 0 = ((fi x.data.toList NM 0).toNat : Int) := by omega
      have hv : (decide (y.data.toList = [111, 110]) = true ∧ decide (y.data.toList = [111, 110] ∨ y.data.toList = [111, 102, 102]) = true ∧ (y.toList == [111, 110]) = true) ∨ (decide (y.data.toList = [111, 110]) = false ∧ (y.toList == [111, 110]) = false ∧ (y.toList == [111, 102, 102]) = decide (y.data.toList = [111, 110] ∨ y.data.toList = [111, 102, 102])) := by
        rw [beq_on, beq_on]
        by_cases h1 : y.data.toList = [111, 110]
        · simp [h1]
        · simp [h1]
      refine (rl_name0 f b o c x y (fi x.data.toList NM 0).toNat w h0 h1 hb hc hkn (by omega) (by omega) _ _ hv).mono ?_
      rintro e w' ⟨rfl, hB⟩
      rw [lineF_two]
      rw [if_pos hk]
      by_cases hy : y.data.toList = [111, 110] ∨ y.data.toList = [111, 102, 102]
      · rw [if_pos hy, decide_eq_true hy]
        exact ⟨_, rfl, fun f' h => (by cases h; rfl), hB⟩
      · rw [if_neg hy, decide_eq_false hy]
        exact ⟨_, rfl, fun f' h => (by cases h), hB⟩
    · refine (rl_num0 f b o c x y _ w h0 h1 hb hc rfl (by omega) _ _ rfl rfl (fiu_cases _)).mono ?_
      rintro e w' ⟨rfl, hB⟩
      rw [lineF_two]
      rw [if_neg hk]
      have hj := fiu_cases x.data.toList
      generalize fi x.data.toList NU 0 = j at hj
      cases hn : numF y.data.toList with
      | none =>
        have : numV y = -1 := (numV_neg y).2 hn
        rw [this]
        exact ⟨setI f j (-1), by simp, fun f' h => (by cases h), hB⟩
      | some n =>
        have : numV y = n := by unfold numV; rw [hn]
        rw [this]
        simp only
        rcases hj with rfl | rfl | rfl | rfl | rfl
        · exact ⟨setI f 0 n, by simp [setN], fun f' h => (by simp [setN] at h; subst h; simp [setI]), hB⟩
        · exact ⟨setI f 1 n, by simp [setN], fun f' h => (by simp [setN] at h; subst h; simp [setI]), hB⟩
        · exact ⟨setI f 2 n, by simp [setN], fun f' h => (by simp [setN] at h; subst h; simp [setI]), hB⟩
        · exact ⟨setI f 3 n, by simp [setN], fun f' h => (by simp [setN] at h; subst h; simp [setI]), hB⟩
        · exact ⟨setI f (-1) n, by simp [setN], fun f' h => (by simp [setN] at h), hB⟩
  | x :: y :: z :: l, hC, hc, hl =>
    refine (rl_other f A (l.length + 3) c w (by simpa using hl) (by omega)).mono ?_
    rintro e w' ⟨rfl, hB⟩
    exact ⟨f, by simp [lineF], fun f' h => (by simp [lineF] at h), hB⟩
theorem words21 (s : ByteArray) (hs : s.size < 1000000) (w : World) : Calls Tryd.prog 21 #[.string s] w fun e w' => ∃ A c, e = .returned (.slice A ((wds s.data.toList).map ofL).length c) ∧ ((wds s.data.toList).map ofL).length ≤ c ∧ Kd.C Kd.string w' A ((wds s.data.toList).map ofL).length ((wds s.data.toList).map ofL) ∧ Below w.heap.size w w' := by
  refine (Pwords.correctorref18_words.calls _ s _ w (words_f s (by omega))).mono ?_
  rintro e w' ⟨v, rfl, hR, hB⟩
  obtain ⟨A, c, rfl, hc, hC⟩ := Kd.R_reads hR
  exact ⟨A, c, rfl, hc, hC, hB⟩
end Go.Proofs.YtcbmeklhmajglaaDoor
end
section
namespace Go.Proofs.YtcbmeklhmajglaaDoor
open Go.RowKit Go.CfgLaw Go.Proofs.YtcbmeklhmajglaaDoorW.PrintWords
set_option linter.unusedVariables false
set_option maxRecDepth 100000 in
set_option maxHeartbeats 1000000 in
theorem check22e (f : Cfg) (w : World) : Calls Tryd.prog 22 #[cv f] w fun e w' => e = .returned (.int .i64 (if okC f then 0 else 1)) ∧ w' = w.alloc (.cells (cells f) 28) := by
  obtain ⟨R, hR⟩ : ∃ R : Int, (if okC f then 0 else 1) = R := ⟨_, rfl⟩
  rw [hR]
  have hi := okC_iff f
  have HR : Aside0 (((1 ≤ f.a ∧ f.a ≤ 500) ∧ (1 ≤ f.b ∧ f.b ≤ 10) ∧ (0 ≤ f.c ∧ f.c ≤ 20) ∧ 1 ≤ f.d ∧ f.d ≤ 50 → 0 = R) ∧ (¬ ((1 ≤ f.a ∧ f.a ≤ 500) ∧ (1 ≤ f.b ∧ f.b ≤ 10) ∧ (0 ≤ f.c ∧ f.c ≤ 20) ∧ 1 ≤ f.d ∧ f.d ≤ 50) → 1 = R)) :=
    ⟨⟨fun h => by rw [← hR, if_pos (hi.2 h)], fun h => by rw [← hR, if_neg (fun h2 => h (hi.1 h2))]⟩⟩
  clear hR hi
  obtain ⟨on, a, b, c, d⟩ := f
  simp only [cv, cells]
  dsimp only at HR
  generalize on 0 = o0; generalize on 1 = o1; generalize on 2 = o2; generalize on 3 = o3; generalize on 4 = o4
  generalize on 5 = o5; generalize on 6 = o6; generalize on 7 = o7; generalize on 8 = o8; generalize on 9 = o9
  go_enter Tryd.func22, Tryd.ntmps22
  go_wp2
  all_goals go_ret
  all_goals refine ⟨?_, rfl⟩
  all_goals first
    | (have h := HR.out.1 (by omega); subst h; rfl)
    | (have h := HR.out.2 (by omega); subst h; rfl)
set_option maxRecDepth 100000 in
set_option maxHeartbeats 1000000 in
theorem check18e (f : Cfg) (w : World) : Calls Tryd.prog 18 #[cv f] w fun e w' => e = .returned (.int .i64 (if okC f then 0 else 1)) ∧ w' = w.alloc (.cells (cells f) 28) := by
  obtain ⟨R, hR⟩ : ∃ R : Int, (if okC f then 0 else 1) = R := ⟨_, rfl⟩
  rw [hR]
  have hi := okC_iff f
  have HR : Aside0 (((1 ≤ f.a ∧ f.a ≤ 500) ∧ (1 ≤ f.b ∧ f.b ≤ 10) ∧ (0 ≤ f.c ∧ f.c ≤ 20) ∧ 1 ≤ f.d ∧ f.d ≤ 50 → 0 = R) ∧ (¬ ((1 ≤ f.a ∧ f.a ≤ 500) ∧ (1 ≤ f.b ∧ f.b ≤ 10) ∧ (0 ≤ f.c ∧ f.c ≤ 20) ∧ 1 ≤ f.d ∧ f.d ≤ 50) → 1 = R)) :=
    ⟨⟨fun h => by rw [← hR, if_pos (hi.2 h)], fun h => by rw [← hR, if_neg (fun h2 => h (hi.1 h2))]⟩⟩
  clear hR hi
  obtain ⟨on, a, b, c, d⟩ := f
  simp only [cv, cells]
  dsimp only at HR
  generalize on 0 = o0; generalize on 1 = o1; generalize on 2 = o2; generalize on 3 = o3; generalize on 4 = o4
  generalize on 5 = o5; generalize on 6 = o6; generalize on 7 = o7; generalize on 8 = o8; generalize on 9 = o9
  go_enter Tryd.func18, Tryd.ntmps18
  go_wp2_with (go_at_call 35; (with_reducible refine (within35 _ _ _ _).mono ?_); rintro e w' ⟨rfl, rfl⟩)
  all_goals go_ret
  all_goals refine ⟨?_, rfl⟩
  all_goals (try simp only [Bool.not_eq_true', Bool.not_eq_false', Bool.or_eq_true, Bool.or_eq_false_iff, decide_eq_true_eq, decide_eq_false_iff_not] at *)
  all_goals first
    | (have h := HR.out.1 (by omega); subst h; rfl)
    | (have h := HR.out.2 (by omega); subst h; rfl)
end Go.Proofs.YtcbmeklhmajglaaDoor
end
section
namespace Go.Proofs.YtcbmeklhmajglaaDoor
open Go.RowKit Go.CfgLaw Go.Proofs.YtcbmeklhmajglaaDoorW.PrintWords Go.Proofs.YtcbmeklhmajglaaDoorW.PrintLast Go.Proofs.YtcbmeklhmajglaaDoorW.PrintMore
set_option linter.unusedVariables false
attribute [local go_sem] setCell_drewN alloc_drewN
attribute [local simp] setCell_drewN alloc_drewN
/-- What is left to read. -/
def pend (f : Cfg) (cur rest : List UInt8) : Option Cfg := match lns rest with
  | [] => none
  | x :: r => linesF f ((cur ++ x) :: r)
theorem pend_start (f : Cfg) (s : List UInt8) : pend f [] s = linesF f (lns s) := by
  unfold pend
  cases h : lns s with
  | nil => exact absurd h (lns_ne s)
  | cons x r => simp
theorem pend_byte (f : Cfg) (cur rest : List UInt8) (c : UInt8) (h : c ≠ 10) : pend f cur (c :: rest) = pend f (cur ++ [c]) rest := by
  unfold pend
  conv => lhs; unfold lns
  rw [if_neg h]
  cases h : lns rest with
  | nil => exact absurd h (lns_ne rest)
  | cons x r => simp
theorem pend_line (f : Cfg) (cur rest : List UInt8) : pend f cur (10 :: rest) = match lineF f (wds cur) with | none => none | some f' => pend f' [] rest := by
  have e : lns (10 :: rest) = [] :: lns rest := by conv => lhs; unfold lns; rw [if_pos rfl]
  unfold pend
  rw [e]
  simp only [List.append_nil]
  conv => lhs; unfold linesF
  cases lineF f (wds cur) with
  | none => rfl
  | some f' =>
    simp only
    cases h : lns rest with
    | nil => exact absurd h (lns_ne rest)
    | cons x r => simp
theorem pend_end (f : Cfg) (cur : List UInt8) : pend f cur [] = lineF f (wds cur) := by
  unfold pend
  simp only [lns, List.append_nil]
  unfold linesF
  cases lineF f (wds cur) with
  | none => rfl
  | some f' => rfl
theorem cells14 {W : World} {q : Nat} {fr : Nat × Nat} {v0 v1 v2 v3 v4 v5 v6 v7 v8 v9 v10 v11 v12 v13 : Value} (e : W.heap[q]? = some (.cells #[v0, v1, v2, v3, v4, v5, v6, v7, v8, v9, v10, v11, v12, v13] 28 fr)) :
    W.cell? ⟨q, 0, none⟩ = some v0 ∧ W.cell? ⟨q, 1, none⟩ = some v1 ∧ W.cell? ⟨q, 2, none⟩ = some v2 ∧ W.cell? ⟨q, 3, none⟩ = some v3 ∧ W.cell? ⟨q, 4, none⟩ = some v4 ∧ W.cell? ⟨q, 5, none⟩ = some v5 ∧ W.cell? ⟨q, 6, none⟩ = some v6 ∧ W.cell? ⟨q, 7, none⟩ = some v7 ∧ W.cell? ⟨q, 8, none⟩ = some v8 ∧ W.cell? ⟨q, 9, none⟩ = some v9 ∧ W.cell? ⟨q, 10, none⟩ = some v10 ∧ W.cell? ⟨q, 11, none⟩ = some v11 ∧ W.cell? ⟨q, 12, none⟩ = some v12 ∧ W.cell? ⟨q, 13, none⟩ = some v13 := by
  refine ⟨?_, ?_, ?_, ?_, ?_, ?_, ?_, ?_, ?_, ?_, ?_, ?_, ?_, ?_⟩ <;> (unfold World.cell?; rw [e]; rfl)
theorem froz {W : World} {q : Nat} {cs : Array Value} (e : W.heap[q]? = some (.cells cs 28)) (i : Nat) : W.frozen? ⟨q, i, none⟩ = false := by
  unfold World.frozen?
  rw [e]
  simp
theorem heap_set (W : World) (q i : Nat) (v : Value) : (W.setCell ⟨q, i, none⟩ v).heap[q]? = (W.heap[q]?).map (fun o => match o with | .cells c t fr => .cells (c.setIfInBounds i v) t fr | o => o) := by
  unfold World.setCell
  rw [Array.getElem?_modify, if_pos rfl]
  cases W.heap[q]? with
  | none => rfl
  | some o => cases o <;> rfl
theorem heap_set_ne (W : World) (p q i : Nat) (v : Value) (h : p ≠ q) : (W.setCell ⟨p, i, none⟩ v).heap[q]? = W.heap[q]? := by
  unfold World.setCell
  rw [Array.getElem?_modify, if_neg h]
/-- Cells of blocks that are not below. -/
theorem below_set {B : Nat} {a w : World} (h : Below B a w) (p i : Nat) (v : Value) (hp : B ≤ p) : Below B a (w.setCell ⟨p, i, none⟩ v) :=
  ⟨h.os, h.tape, h.output, by unfold World.setCell; simpa using h.size, fun k hk => by rw [heap_set_ne _ _ _ _ _ (by omega)]; exact h.block k hk⟩
theorem check22' (f : Cfg) (w : World) : Calls Tryd.prog 22 #[cv f] w fun e w' => ∃ c : Int, e = .returned (.int .i64 c) ∧ (if okC f then c = 0 else c = 1) ∧ Below w.heap.size w w' := by
  refine (check22 f w).mono ?_
  rintro e w' ⟨rfl, hB⟩
  refine ⟨_, rfl, ?_, hB⟩
  split <;> rfl
end Go.Proofs.YtcbmeklhmajglaaDoor
end
section
namespace Go.Proofs.YtcbmeklhmajglaaDoor
open Go.RowKit Go.CfgLaw Go.Proofs.YtcbmeklhmajglaaDoorW.PrintWords Go.Proofs.YtcbmeklhmajglaaDoorW.PrintLast Go.Proofs.YtcbmeklhmajglaaDoorW.PrintMore
set_option linter.unusedVariables false
theorem heap_set_at {W : World} {q : Nat} {cs : Array Value} (e : W.heap[q]? = some (.cells cs 28)) (i : Nat) (v : Value) : (W.setCell ⟨q, i, none⟩ v).heap[q]? = some (.cells (cs.setIfInBounds i v) 28) := by
  rw [heap_set, e]
  rfl
/-- Fourteen cells, stored. -/
abbrev set14 (W : World) (q : Nat) (v0 v1 v2 v3 v4 v5 v6 v7 v8 v9 v10 v11 v12 v13 : Value) : World :=
  (((((((((((((W.setCell ⟨q, 0, none⟩ v0).setCell ⟨q, 1, none⟩ v1).setCell ⟨q, 2, none⟩ v2).setCell ⟨q, 3, none⟩ v3).setCell ⟨q, 4, none⟩ v4).setCell ⟨q, 5, none⟩ v5).setCell ⟨q, 6, none⟩ v6).setCell ⟨q, 7, none⟩ v7).setCell ⟨q, 8, none⟩ v8).setCell ⟨q, 9, none⟩ v9).setCell ⟨q, 10, none⟩ v10).setCell ⟨q, 11, none⟩ v11).setCell ⟨q, 12, none⟩ v12).setCell ⟨q, 13, none⟩ v13
theorem set14_heap {W : World} {q : Nat} {u0 u1 u2 u3 u4 u5 u6 u7 u8 u9 u10 u11 u12 u13 : Value} (e : W.heap[q]? = some (.cells #[u0, u1, u2, u3, u4, u5, u6, u7, u8, u9, u10, u11, u12, u13] 28)) (v0 v1 v2 v3 v4 v5 v6 v7 v8 v9 v10 v11 v12 v13 : Value) :
    (set14 W q v0 v1 v2 v3 v4 v5 v6 v7 v8 v9 v10 v11 v12 v13).heap[q]? = some (.cells #[v0, v1, v2, v3, v4, v5, v6, v7, v8, v9, v10, v11, v12, v13] 28) := by
  have h := heap_set_at (heap_set_at (heap_set_at (heap_set_at (heap_set_at (heap_set_at (heap_set_at (heap_set_at (heap_set_at (heap_set_at (heap_set_at (heap_set_at (heap_set_at (heap_set_at e 0 v0) 1 v1) 2 v2) 3 v3) 4 v4) 5 v5) 6 v6) 7 v7) 8 v8) 9 v9) 10 v10) 11 v11) 12 v12) 13 v13
  simp only [List.setIfInBounds_toArray, List.set_cons_zero, List.set_cons_succ] at h
  exact h
theorem set14_ne {W : World} {p q : Nat} (h : p ≠ q) (v0 v1 v2 v3 v4 v5 v6 v7 v8 v9 v10 v11 v12 v13 : Value) :
    (set14 W p v0 v1 v2 v3 v4 v5 v6 v7 v8 v9 v10 v11 v12 v13).heap[q]? = W.heap[q]? := by
  unfold set14
  simp only [heap_set_ne _ _ _ _ _ h]
theorem set14_size {W : World} {p : Nat} (v0 v1 v2 v3 v4 v5 v6 v7 v8 v9 v10 v11 v12 v13 : Value) :
    (set14 W p v0 v1 v2 v3 v4 v5 v6 v7 v8 v9 v10 v11 v12 v13).heap.size = W.heap.size := by
  unfold set14
  simp [World.setCell]
theorem set14_below {B : Nat} {a W : World} {p : Nat} (hB : Below B a W) (hp : B ≤ p) (v0 v1 v2 v3 v4 v5 v6 v7 v8 v9 v10 v11 v12 v13 : Value) :
    Below B a (set14 W p v0 v1 v2 v3 v4 v5 v6 v7 v8 v9 v10 v11 v12 v13) :=
  below_set (below_set (below_set (below_set (below_set (below_set (below_set (below_set (below_set (below_set (below_set (below_set (below_set (below_set hB _ _ _ hp) _ _ _ hp) _ _ _ hp) _ _ _ hp) _ _ _ hp) _ _ _ hp) _ _ _ hp) _ _ _ hp) _ _ _ hp) _ _ _ hp) _ _ _ hp) _ _ _ hp) _ _ _ hp) _ _ _ hp
theorem info28 : (Tryd.prog.info? 28).map (·.size) = some 14 := by kernel_rfl
theorem retc {fn : Func} {p u : Tmp} (h : fn.results = #[.cell p 28, .tmp u]) (tmps : Array Value) (W : World) (g : Nat) (cs : Array Value) (hp : tmps.getD p undef = .pointer (some ⟨g, 0, none⟩))
    (hg : W.heap[g]? = some (.cells cs 28)) (hs : cs.size = 14) : (results fn tmps).run Tryd.prog W = .ok (.tuple #[.agg cs, tmps.getD u undef]) W := by
  rw [results_cell_tmp h]
  have hl := run_loadVar_row (P := Tryd.prog) W g 28 28 cs (0, 0) _ hg Tryd.underlying28 rfl (by rw [info28, hs])
  have hp' : tmps[p]?.getD undef = .pointer (some ⟨g, 0, none⟩) := by simpa using hp
  simp [asAddr, Result.andThen, hl, hp']
theorem keepb {W w3 : World} {q : Nat} {x : Obj} (hB : Below W.heap.size W w3) (h : W.heap[q]? = some x) : w3.heap[q]? = some x :=
  (hB.block q (Array.getElem?_eq_some_iff.1 h).1).trans h
theorem heap_al {W : World} {o x : Obj} {q : Nat} (h : W.heap[q]? = some x) : (W.alloc o).heap[q]? = some x := by
  have hq : q < W.heap.size := (Array.getElem?_eq_some_iff.1 h).1
  show (W.heap.push o)[q]? = some x
  rw [Array.getElem?_push, if_neg (by omega)]
  exact h
theorem belK {w W w3 : World} (h : Below w.heap.size w W) (hB3 : Below W.heap.size W w3) : Below w.heap.size w w3 := h.trans (hB3.mono h.size)
theorem cellrow {W : World} {q : Nat} {cs : Array Value} (e : W.heap[q]? = some (.cells cs 28)) (j : Nat) : W.cell? ⟨q, j, none⟩ = cs[j]? := cell_of_row W q j cs 28 (0, 0) e
theorem heap_lt {W : World} {x : Obj} {q : Nat} (h : W.heap[q]? = some x) : q < W.heap.size := (Array.getElem?_eq_some_iff.1 h).1
theorem wa_len : ∀ (l acc : List UInt8), (wa acc l).length ≤ l.length + (if acc = [] then 0 else 1)
  | [], acc => by
    unfold wa
    split <;> simp
  | c :: l, acc => by
    unfold wa
    split
    · split
      · have := wa_len l []
        simp at this ⊢
        omega
      · have := wa_len l []
        simp at this ⊢
        omega
    · have := wa_len l (acc ++ [c])
      rw [if_neg (by simp)] at this
      simp only [List.length_cons]
      omega
theorem wds_len (l : List UInt8) : (wds l).length ≤ l.length := by
  have := wa_len l []
  rw [if_pos rfl] at this
  exact this
theorem ofL_back (l : List (List UInt8)) : (l.map ofL).map (·.data.toList) = l := by
  rw [List.map_map]
  exact (List.map_congr_left (fun x _ => by simp [ofL])).trans (List.map_id _)
/-- A line's words, read (ref). -/
theorem words21e (s : ByteArray) (hs : s.size < 1000000) (a i : Nat) (w : World) : Calls Tryd.prog 21 #[.string (s.extract a i)] w fun e w' => ∃ A c, e = .returned (.slice A ((wds (ext s (a, i))).map ofL).length c) ∧ ((wds (ext s (a, i))).map ofL).length ≤ c ∧ Kd.C Kd.string w' A ((wds (ext s (a, i))).map ofL).length ((wds (ext s (a, i))).map ofL) ∧ Below w.heap.size w w' := by
  have h := words21 (s.extract a i) (by rw [ByteArray.size_extract]; omega) w
  have e : (s.extract a i).data.toList = ext s (a, i) := by rw [ofL_ext]; simp [ofL]
  rw [e] at h
  exact h
theorem line20e (f : Cfg) (l : List (List UInt8)) (hl : l.length < 1000000) (A : Option Addr) (c : Nat) (w : World) (hC : Kd.C Kd.string w A (l.map ofL).length (l.map ofL)) (hc : (l.map ofL).length ≤ c) :
    Calls Tryd.prog 20 #[cv f, .slice A (l.map ofL).length c] w fun e w' => ∃ g, e = .returned (.tuple #[cv g, .bool (lineF f l).isSome]) ∧ (∀ f', lineF f l = some f' → g = f') ∧ Below w.heap.size w w' := by
  have h := refline20 f A c (l.map ofL) w hC hc (by rw [List.length_map]; exact hl)
  rw [ofL_back] at h
  exact h
theorem ext_len (s : ByteArray) (a i : Nat) : (ext s (a, i)).length ≤ s.size := by
  have e : (s.extract a i).data.toList = ext s (a, i) := by rw [ofL_ext]; simp [ofL]
  rw [← e]
  have : (s.extract a i).data.toList.length = (s.extract a i).size := Array.length_toList
  rw [this, ByteArray.size_extract]
  omega
end Go.Proofs.YtcbmeklhmajglaaDoor
end
