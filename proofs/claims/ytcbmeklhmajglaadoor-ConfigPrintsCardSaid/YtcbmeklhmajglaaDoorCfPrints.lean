/- A part of the proof: what the functions of the program compute, shown once each; the last text holds the statement. No condition beyond those of the statement. -/
import Derived.Test.YtcbmeklhmajglaaDoorCfPrintsA
import Derived.Test.YtcbmeklhmajglaaDoorRows
import Derived.Test.YtcbmeklhmajglaaDoorTie
import Derived.Test.YtcbmeklhmajglaaDoorCards
import Derived.WalkKit
import Derived.ProofKit
import Derived.OpenShut
import Derived.ChangeOld
import Derived.ChangeMaps5
import Derived.Below
import Derived.SizedLaws
import Derived.HandedShaped
import Derived.LaidMore
import Derived.Lay
import Derived.SevenTiedAt
import Derived.Stop.Joined
import Derived.Deep.Grids
set_option linter.unusedSimpArgs false
set_option linter.unusedVariables false
section
namespace Go.Proofs.YtcbmeklhmajglaaDoor
open Go.RowKit Go.CfgLaw Go.Eng Go.Proofs.YtcbmeklhmajglaaDoorW.PrintWords Go.Proofs.YtcbmeklhmajglaaDoorW.PrintLast Go.Proofs.YtcbmeklhmajglaaDoorW.PrintMore
set_option linter.unusedVariables false
def cfgI : IV := .agg [.sym 500, .sym 501, .sym 502, .sym 503, .sym 504, .sym 505, .sym 506, .sym 507, .sym 508, .sym 509, .sym 1, .sym 2, .sym 3, .sym 4]
/-- What Good asks. -/
def rowsG (f : Nat) (args : List IV) : Option IV :=
  match f, args with
  | 8, [.sym 1, .int .i64 (.ofNat 500)] => some (.sym 300)
  | 8, [.sym 2, .int .i64 (.ofNat 10)] => some (.sym 301)
  | 8, [.sym 3, .int .i64 (.ofNat 21)] => some (.sym 5)
  | 8, [.sym 4, .int .i64 (.ofNat 50)] => some (.sym 303)
  | _, _ => none
def isGood : R → Bool
  | .ok (.agg [.bool false, .sym 501, .sym 502, .sym 503, .sym 504, .sym 505, .sym 506, .sym 507, .sym 508, .sym 509, .sym 400, .sym 401, .sym 5, .sym 403]) _ => true
  | _ => false
theorem good12k : isGood ((run Tryd.prog (memo rowsG) 10000).f 12 [cfgI] s₀ .ok) = true := by kernel_rfl
/-- What the symbols stand for. -/
def lk (x y z u n1 n2 n3 n4 : Int) : Nat → Int
  | 1 => x | 2 => y | 3 => z | 4 => u | 5 => n3 | 300 => n1 | 301 => n2 | 303 => n4 | 400 => n1 + 1 | 401 => n2 + 1 | 403 => n4 + 1 | _ => 0
def gq (bs : Nat → Bool) (l : Nat → Int) : Gam := fun k => match Nat.ble 500 k with
  | true => .bool (bs (k - 500))
  | false => .int .i64 (l k)
theorem gq_one (bs : Nat → Bool) (l : Nat → Int) (k : Nat) : (gq bs l k).oneCell' = true := by
  unfold gq
  split <;> rfl
theorem gq_int (bs : Nat → Bool) (l : Nat → Int) (k : Nat) (hk : k < 500) : gq bs l k = .int .i64 (l k) := by
  unfold gq
  have : Nat.ble 500 k = false := by
    cases h : Nat.ble 500 k with
    | false => rfl
    | true => have := Nat.le_of_ble_eq_true h; omega
  rw [this]
theorem symQ {ρ : Rho} (bs : Nat → Bool) (l : Nat → Int) (k : Nat) (hs : 300 ≤ k → k < 400 → l (k + 100) = l k + 1 ∧ -1000000 < l k ∧ l k < 1000000) : VR ρ (gq bs l) (.sym k) (gq bs l k) :=
  .sym k (gq_one bs l k) (fun h => ⟨_, gq_int bs l k h⟩) (fun h h' => ⟨l k, gq_int bs l k (by omega), by rw [gq_int bs l (k + 100) (by omega), (hs h h').1], (hs h h').2⟩)
theorem symI {ρ : Rho} {γ : Gam} {k : Nat} {v : Value} (h : VR ρ γ (.sym k) v) : v = γ k := by
  cases h; rfl
theorem inv2 {ρ : Rho} {γ : Gam} {i : Nat} {k : IntKind} {n : Int} {vs : List Value} (h : VRs ρ γ [.sym i, .int k n] vs) : vs = [γ i, .int k n] := by
  cases h with
  | cons _ a _ _ ha h => cases h with
    | cons _ b _ _ hb h => cases h; rw [symI ha, vi hb]
theorem sym_q {ρ : Rho} {bs : Nat → Bool} {l : Nat → Int} {k : Nat} {f : Nat} {args : Array Value} {n : Int} {w : World} (hk : k < 500) (hb : n = l k) (hs : 300 ≤ k → k < 400 → l (k + 100) = l k + 1 ∧ -1000000 < l k ∧ l k < 1000000)
    (h : Calls Tryd.prog f args w fun e w' => e = .returned (.int .i64 n) ∧ w' = w) :
    Calls Tryd.prog f args w fun e w' => ∃ v', e = .returned v' ∧ Below w.heap.size w w' ∧ VR ρ (gq bs l) (.sym k) v' := by
  subst hb
  refine h.mono ?_
  rintro e w' ⟨rfl, rfl⟩
  exact ⟨_, rfl, Below.refl _ _, by rw [← gq_int bs l k hk]; exact symQ bs l k hs⟩
theorem good_ext (bs : Nat → Bool) (x y z u : Int) (n1 n2 n3 n4 : Nat) (h1 : n1 < 500) (h2 : n2 < 10) (h3 : n3 < 21) (h4 : n4 < 50)
    (c1 : ∀ w, Calls Tryd.prog 8 #[.int .i64 x, .int .i64 500] w fun e w' => e = .returned (.int .i64 n1) ∧ w' = w)
    (c2 : ∀ w, Calls Tryd.prog 8 #[.int .i64 y, .int .i64 10] w fun e w' => e = .returned (.int .i64 n2) ∧ w' = w)
    (c3 : ∀ w, Calls Tryd.prog 8 #[.int .i64 z, .int .i64 21] w fun e w' => e = .returned (.int .i64 n3) ∧ w' = w)
    (c4 : ∀ w, Calls Tryd.prog 8 #[.int .i64 u, .int .i64 50] w fun e w' => e = .returned (.int .i64 n4) ∧ w' = w) :
    ExtOk Tryd.prog (gq bs (lk x y z u n1 n2 n3 n4)) (memo rowsG) := by
  refine memo_ok fun f args v h ρ args' hv w => ?_
  unfold rowsG at h
  split at h <;> (try (cases h; done))
  · cases h; rw [inv2 hv]; exact sym_q (by omega) rfl (fun _ _ => ⟨rfl, by show -1000000 < (n1 : Int); omega, by show (n1 : Int) < 1000000; omega⟩) (c1 w)
  · cases h; rw [inv2 hv]; exact sym_q (by omega) rfl (fun _ _ => ⟨rfl, by show -1000000 < (n2 : Int); omega, by show (n2 : Int) < 1000000; omega⟩) (c2 w)
  · cases h; rw [inv2 hv]; exact sym_q (by omega) rfl (fun h _ => by omega) (c3 w)
  · cases h; rw [inv2 hv]; exact sym_q (by omega) rfl (fun _ _ => ⟨rfl, by show -1000000 < (n4 : Int); omega, by show (n4 : Int) < 1000000; omega⟩) (c4 w)
theorem good12 (f : Cfg) : ∃ g : Gd, g.Ok ∧ ∀ w, Calls Tryd.prog 12 #[cv f] w fun e w' => e = .returned (cv g.cfg) ∧ Below w.heap.size w w' := by
  obtain ⟨bs, x, y, z, u⟩ := f
  obtain ⟨n1, h1, c1⟩ := within8 x 500 (by decide) (by decide)
  obtain ⟨n2, h2, c2⟩ := within8 y 10 (by decide) (by decide)
  obtain ⟨n3, h3, c3⟩ := within8 z 21 (by decide) (by decide)
  obtain ⟨n4, h4, c4⟩ := within8 u 50 (by decide) (by decide)
  have hX := good_ext bs x y z u n1 n2 n3 n4 h1 h2 h3 h4 c1 c2 c3 c4
  refine ⟨⟨bs, n1 + 1, n2 + 1, n3, n4 + 1⟩, by constructor <;> (dsimp only; omega), fun w => ?_⟩
  have hc : VR (fun _ => none) (gq bs (lk x y z u n1 n2 n3 n4)) cfgI (cv ⟨bs, x, y, z, u⟩) := by
    refine .agg _ #[.bool (bs 0), .bool (bs 1), .bool (bs 2), .bool (bs 3), .bool (bs 4), .bool (bs 5), .bool (bs 6), .bool (bs 7), .bool (bs 8), .bool (bs 9), .int .i64 x, .int .i64 y, .int .i64 z, .int .i64 u] ?_
    have s := fun k (hk : k < 300 ∨ 400 ≤ k) => symQ (ρ := fun _ => none) bs (lk x y z u n1 n2 n3 n4) k (fun h h' => by omega)
    exact .cons _ _ _ _ (s 500 (by omega)) (.cons _ _ _ _ (s 501 (by omega)) (.cons _ _ _ _ (s 502 (by omega)) (.cons _ _ _ _ (s 503 (by omega)) (.cons _ _ _ _ (s 504 (by omega)) (.cons _ _ _ _ (s 505 (by omega)) (.cons _ _ _ _ (s 506 (by omega)) (.cons _ _ _ _ (s 507 (by omega)) (.cons _ _ _ _ (s 508 (by omega)) (.cons _ _ _ _ (s 509 (by omega))
      (.cons _ _ _ _ (s 1 (by omega)) (.cons _ _ _ _ (s 2 (by omega)) (.cons _ _ _ _ (s 3 (by omega)) (.cons _ _ _ _ (s 4 (by omega)) .nil)))))))))))))
  have h := good12k
  unfold isGood at h
  split at h <;> (try (cases h; done))
  rename_i s1 hr
  refine (calls_of_run (args' := [cv ⟨bs, x, y, z, u⟩]) follows hX hr (.cons _ _ _ _ hc .nil) w).mono ?_
  rintro e w' ⟨v', ρ', rfl, g1, g2⟩
  refine ⟨?_, g1⟩
  obtain ⟨vs, rfl, h⟩ := vagg g2
  obtain ⟨v0, r, rfl, a0, h⟩ := vcons h
  obtain ⟨v1, r, rfl, a1, h⟩ := vcons h
  obtain ⟨v2, r, rfl, a2, h⟩ := vcons h
  obtain ⟨v3, r, rfl, a3, h⟩ := vcons h
  obtain ⟨v4, r, rfl, a4, h⟩ := vcons h
  obtain ⟨v5, r, rfl, a5, h⟩ := vcons h
  obtain ⟨v6, r, rfl, a6, h⟩ := vcons h
  obtain ⟨v7, r, rfl, a7, h⟩ := vcons h
  obtain ⟨v8, r, rfl, a8, h⟩ := vcons h
  obtain ⟨v9, r, rfl, a9, h⟩ := vcons h
  obtain ⟨v10, r, rfl, a10, h⟩ := vcons h
  obtain ⟨v11, r, rfl, a11, h⟩ := vcons h
  obtain ⟨v12, r, rfl, a12, h⟩ := vcons h
  obtain ⟨v13, r, rfl, a13, h⟩ := vcons h
  obtain rfl := vnil h
  rw [vb a0, symI a1, symI a2, symI a3, symI a4, symI a5, symI a6, symI a7, symI a8, symI a9, symI a10, symI a11, symI a12, symI a13]
  rfl
end Go.Proofs.YtcbmeklhmajglaaDoor
end
section
namespace Go.Proofs.YtcbmeklhmajglaaDoor
open Go.RowKit Go.CfgLaw Go.Proofs.YtcbmeklhmajglaaDoorW.PrintWords Go.Proofs.YtcbmeklhmajglaaDoorW.PrintLast Go.Proofs.YtcbmeklhmajglaaDoorW.PrintMore
set_option linter.unusedVariables false
attribute [local go_sem] setCell_drewN alloc_drewN
attribute [local simp] setCell_drewN alloc_drewN
set_option maxRecDepth 100000 in
set_option maxHeartbeats 8000000 in
theorem prints6 (f : Cfg) (m : Int) (w : World) (hm : w.cell? ⟨0, 0, none⟩ = some (.int .i64 m)) (hw : Pw w) :
    Calls Tryd.prog 6 #[cv f] w fun e w' => e = .returned (.bool true) ∧ Below w.heap.size w w' := by
  obtain ⟨g, hg, h12⟩ := good12 f
  have h13 := fun W hW => print13 g hg W hW
  have h14 := fun W => print14 g hg W
  have hl := SP_len g hg 13 (Nat.le_refl _)
  have hS : (ofL (SP g 13)).size ≤ 1000 := by rw [ofL_size]; omega
  have h9 := fun W hW => parse9 (ofL (SP g 13)) (by omega) m W hW
  rw [show (ofL (SP g 13)).data.toList = SP g 13 by simp [ofL], SP_parse g hg] at h9
  generalize ofL (SP g 13) = S at h13 h14 h9 hS
  have heq := eq28 g.cfg
  have hg0 : g.cfg.on 0 = false := rfl
  have hmB : ∀ V : World, Below w.heap.size w V → V.cell? ⟨0, 0, none⟩ = some (.int .i64 m) := fun V hV => (hV.cell (p := ⟨0, 0, none⟩) (lt_of_cell hm)).trans hm
  have HM := Aside0.mk hmB
  have HW := Aside0.mk hw
  obtain ⟨on, a, b, c, d⟩ := f
  replace h12 : ∀ w, Calls Tryd.prog 12 #[.agg #[.bool (on 0), .bool (on 1), .bool (on 2), .bool (on 3), .bool (on 4), .bool (on 5), .bool (on 6), .bool (on 7), .bool (on 8), .bool (on 9), .int .i64 a, .int .i64 b, .int .i64 c, .int .i64 d]] w fun e w' => e = .returned (.agg #[.bool false, .bool (g.on 1), .bool (g.on 2), .bool (g.on 3), .bool (g.on 4), .bool (g.on 5), .bool (g.on 6), .bool (g.on 7), .bool (g.on 8), .bool (g.on 9), .int .i64 (g.a : Int), .int .i64 (g.b : Int), .int .i64 (g.c : Int), .int .i64 (g.d : Int)]) ∧ Below w.heap.size w w' := h12
  replace h9 : ∀ W : World, W.cell? ⟨0, 0, none⟩ = some (.int .i64 m) → Calls Tryd.prog 9 #[.string S] W fun e w' => e = .returned (.tuple #[.agg #[.bool false, .bool (g.on 1), .bool (g.on 2), .bool (g.on 3), .bool (g.on 4), .bool (g.on 5), .bool (g.on 6), .bool (g.on 7), .bool (g.on 8), .bool (g.on 9), .int .i64 (g.a : Int), .int .i64 (g.b : Int), .int .i64 (g.c : Int), .int .i64 (g.d : Int)], .int .i64 0]) ∧ Below W.heap.size W w' := h9
  replace heq : ∀ W, (Op.equalIn 10000 28 (.agg #[.bool false, .bool (g.on 1), .bool (g.on 2), .bool (g.on 3), .bool (g.on 4), .bool (g.on 5), .bool (g.on 6), .bool (g.on 7), .bool (g.on 8), .bool (g.on 9), .int .i64 (g.a : Int), .int .i64 (g.b : Int), .int .i64 (g.c : Int), .int .i64 (g.d : Int)]) (.agg #[.bool false, .bool (g.on 1), .bool (g.on 2), .bool (g.on 3), .bool (g.on 4), .bool (g.on 5), .bool (g.on 6), .bool (g.on 7), .bool (g.on 8), .bool (g.on 9), .int .i64 (g.a : Int), .int .i64 (g.b : Int), .int .i64 (g.c : Int), .int .i64 (g.d : Int)])).run Tryd.prog W = .ok true W := heq
  clear hm hw hl hmB hg hg0
  show Calls Tryd.prog 6 #[.agg #[.bool (on 0), .bool (on 1), .bool (on 2), .bool (on 3), .bool (on 4), .bool (on 5), .bool (on 6), .bool (on 7), .bool (on 8), .bool (on 9), .int .i64 a, .int .i64 b, .int .i64 c, .int .i64 d]] w _
  go_enter Tryd.func6, Tryd.ntmps6
  go_wp2_with (first
    | (go_at_call 7; (with_reducible refine (known7 _).mono ?_); rintro e w1 ⟨rfl, hB1⟩; have c1 := cellrow (keepb hB1 (heap_alloc_new w _)); have L1 : Below w.heap.size w w1 := ((Below.refl _ w).alloc (Nat.le_refl _) _).trans (hB1.mono (by simp)))
    | (go_at_call 12; (with_reducible refine (h12 _).mono ?_); rintro e w2 ⟨rfl, hB2⟩; have L2 := belK L1 hB2)
    | (go_at_call 13; (with_reducible refine (h13 _ (HW.out.below (L2.alloc L2.size _))).mono ?_); rintro e w3 ⟨rfl, hB3⟩; have k3 := keepb hB3 (heap_alloc_new w2 _); have L3 : Below w.heap.size w w3 := (L2.alloc L2.size _).trans (hB3.mono (by have := L2.size; simp; omega)))
    | (go_at_call 9; (with_reducible refine (h9 _ (HM.out _ L3)).mono ?_); rintro e w4 ⟨rfl, hB4⟩; have k4 := keepb hB4 k3; have d4 := fun o => cellrow (heap_al (o := o) k4); have L4 := belK L3 hB4)
    | (go_at_call 14; (with_reducible refine (h14 _).mono ?_); rintro e w5 ⟨rfl, hB5⟩; have k5 := keepb hB5 (heap_al k4); have d5 := cellrow k5; have j5 := cellrow (keepb hB5 (heap_alloc_new w4 _)); have L5 : Below w.heap.size w w5 := (L4.alloc L4.size _).trans (hB5.mono (by have := L4.size; simp; omega)))
    | fail)
  go_ret
  exact ⟨rfl, L5⟩
end Go.Proofs.YtcbmeklhmajglaaDoor
end
section
namespace Go.Proofs.YtcbmeklhmajglaaDoor
open Go.ChangeShapes Go.WideShapes Go.ChangeAt Go.RowKit Go.Deep
open Go.ChangeMaps (open_string shut_string)
open Go.Proofs.YtcbmeklhmajglaaDoorW.PrintWords
set_option linter.unusedVariables false
theorem cells28 : Tryd.prog.cellsOf 28 = 14 := by kernel_rfl
theorem cells26 : Tryd.prog.cellsOf 26 = 10 := by kernel_rfl
theorem cells4 : Tryd.prog.cellsOf 4 = 1 := by kernel_rfl
theorem cells3 : Tryd.prog.cellsOf 3 = 1 := by kernel_rfl
theorem some_at {α : Type} {l : List α} {n : Nat} (h : l.length = n) (i : Nat) (hi : i < n) : ∃ x, l[i]? = some x := ⟨_, List.getElem?_eq_getElem (by omega)⟩
theorem cons_of {α : Type} {l : List α} {n : Nat} (h : l.length = n + 1) : ∃ x r, l = x :: r ∧ r.length = n := by
  cases l with
  | nil => cases h
  | cons x r => exact ⟨x, r, rfl, by simpa using h⟩
theorem list14 {α : Type} (l : List α) (h : l.length = 14) : ∃ c0 c1 c2 c3 c4 c5 c6 c7 c8 c9 c10 c11 c12 c13, l = [c0, c1, c2, c3, c4, c5, c6, c7, c8, c9, c10, c11, c12, c13] := by
  obtain ⟨c0, r0, rfl, h0⟩ := cons_of h
  obtain ⟨c1, r1, rfl, h1⟩ := cons_of h0
  obtain ⟨c2, r2, rfl, h2⟩ := cons_of h1
  obtain ⟨c3, r3, rfl, h3⟩ := cons_of h2
  obtain ⟨c4, r4, rfl, h4⟩ := cons_of h3
  obtain ⟨c5, r5, rfl, h5⟩ := cons_of h4
  obtain ⟨c6, r6, rfl, h6⟩ := cons_of h5
  obtain ⟨c7, r7, rfl, h7⟩ := cons_of h6
  obtain ⟨c8, r8, rfl, h8⟩ := cons_of h7
  obtain ⟨c9, r9, rfl, h9⟩ := cons_of h8
  obtain ⟨c10, r10, rfl, h10⟩ := cons_of h9
  obtain ⟨c11, r11, rfl, h11⟩ := cons_of h10
  obtain ⟨c12, r12, rfl, h12⟩ := cons_of h11
  obtain ⟨c13, r13, rfl, h13⟩ := cons_of h12
  obtain rfl := List.length_eq_zero_iff.1 h13
  exact ⟨c0, c1, c2, c3, c4, c5, c6, c7, c8, c9, c10, c11, c12, c13, rfl⟩
set_option maxRecDepth 100000 in
theorem cfg_open {H : Type} {enc : TypeId × Value → H} {W : World} {base b0' : Nat} {spare : Nat → Bool} {held : Bool} {r : Reach} {v : Value} {d : DataW H} {p : List MemPlace} (hv : Value.okWide Tryd.prog W r b0' 28 v)
    (h : DataW.Trod enc Tryd.prog W base spare held 28 v d p) : ∃ (b0 b1 b2 b3 b4 b5 b6 b7 b8 b9 : Bool) (x y z u : Int), v = .agg #[.bool b0, .bool b1, .bool b2, .bool b3, .bool b4, .bool b5, .bool b6, .bool b7, .bool b8, .bool b9, .int .i64 x, .int .i64 y, .int .i64 z, .int .i64 u] := by
  obtain ⟨⟨l⟩, rfl, hsz⟩ := okWide_struct Tryd.underlying28 hv
  obtain ⟨c0, c1, c2, c3, c4, c5, c6, c7, c8, c9, c10, c11, c12, c13, rfl⟩ := list14 l (hsz.trans cells28)
  obtain ⟨fuel, hf⟩ := h
  obtain ⟨xs, n, rfl, hx, hl, hxl, hel⟩ := DataW.trod_struct Tryd.underlying28 hf
  obtain ⟨x0, e0⟩ := some_at hxl 0 (by decide)
  have f0 : DataW.trod enc Tryd.prog W base spare held n 26 (([c0, c1, c2, c3, c4, c5, c6, c7, c8, c9, c10, c11, c12, c13].drop 0).take (Tryd.prog.cellsOf 26)) = some x0 := (hel 0 _ rfl).trans e0
  rw [cells26] at f0
  obtain ⟨ys, m, rfl, hy, hyl, hyn, hey⟩ := DataW.trod_array Tryd.underlying26 f0
  rw [cells4] at hey
  obtain ⟨y0, g0⟩ := some_at hyn 0 (by decide)
  obtain ⟨b0, k0, _⟩ := DataW.trod_bool Tryd.underlying4 ((hey 0 (by decide)).trans g0)
  obtain ⟨y1, g1⟩ := some_at hyn 1 (by decide)
  obtain ⟨b1, k1, _⟩ := DataW.trod_bool Tryd.underlying4 ((hey 1 (by decide)).trans g1)
  obtain ⟨y2, g2⟩ := some_at hyn 2 (by decide)
  obtain ⟨b2, k2, _⟩ := DataW.trod_bool Tryd.underlying4 ((hey 2 (by decide)).trans g2)
  obtain ⟨y3, g3⟩ := some_at hyn 3 (by decide)
  obtain ⟨b3, k3, _⟩ := DataW.trod_bool Tryd.underlying4 ((hey 3 (by decide)).trans g3)
  obtain ⟨y4, g4⟩ := some_at hyn 4 (by decide)
  obtain ⟨b4, k4, _⟩ := DataW.trod_bool Tryd.underlying4 ((hey 4 (by decide)).trans g4)
  obtain ⟨y5, g5⟩ := some_at hyn 5 (by decide)
  obtain ⟨b5, k5, _⟩ := DataW.trod_bool Tryd.underlying4 ((hey 5 (by decide)).trans g5)
  obtain ⟨y6, g6⟩ := some_at hyn 6 (by decide)
  obtain ⟨b6, k6, _⟩ := DataW.trod_bool Tryd.underlying4 ((hey 6 (by decide)).trans g6)
  obtain ⟨y7, g7⟩ := some_at hyn 7 (by decide)
  obtain ⟨b7, k7, _⟩ := DataW.trod_bool Tryd.underlying4 ((hey 7 (by decide)).trans g7)
  obtain ⟨y8, g8⟩ := some_at hyn 8 (by decide)
  obtain ⟨b8, k8, _⟩ := DataW.trod_bool Tryd.underlying4 ((hey 8 (by decide)).trans g8)
  obtain ⟨y9, g9⟩ := some_at hyn 9 (by decide)
  obtain ⟨b9, k9, _⟩ := DataW.trod_bool Tryd.underlying4 ((hey 9 (by decide)).trans g9)
  obtain ⟨x1, e1⟩ := some_at hxl 1 (by decide)
  have q1 : DataW.trod enc Tryd.prog W base spare held _ 3 (([c0, c1, c2, c3, c4, c5, c6, c7, c8, c9, c10, c11, c12, c13].drop 10).take (Tryd.prog.cellsOf 3)) = some x1 := (hel 1 _ rfl).trans e1
  rw [cells3] at q1
  obtain ⟨a1, m1, _⟩ := DataW.trod_int Tryd.underlying3 q1
  obtain ⟨x2, e2⟩ := some_at hxl 2 (by decide)
  have q2 : DataW.trod enc Tryd.prog W base spare held _ 3 (([c0, c1, c2, c3, c4, c5, c6, c7, c8, c9, c10, c11, c12, c13].drop 11).take (Tryd.prog.cellsOf 3)) = some x2 := (hel 2 _ rfl).trans e2
  rw [cells3] at q2
  obtain ⟨a2, m2, _⟩ := DataW.trod_int Tryd.underlying3 q2
  obtain ⟨x3, e3⟩ := some_at hxl 3 (by decide)
  have q3 : DataW.trod enc Tryd.prog W base spare held _ 3 (([c0, c1, c2, c3, c4, c5, c6, c7, c8, c9, c10, c11, c12, c13].drop 12).take (Tryd.prog.cellsOf 3)) = some x3 := (hel 3 _ rfl).trans e3
  rw [cells3] at q3
  obtain ⟨a3, m3, _⟩ := DataW.trod_int Tryd.underlying3 q3
  obtain ⟨x4, e4⟩ := some_at hxl 4 (by decide)
  have q4 : DataW.trod enc Tryd.prog W base spare held _ 3 (([c0, c1, c2, c3, c4, c5, c6, c7, c8, c9, c10, c11, c12, c13].drop 13).take (Tryd.prog.cellsOf 3)) = some x4 := (hel 4 _ rfl).trans e4
  rw [cells3] at q4
  obtain ⟨a4, m4, _⟩ := DataW.trod_int Tryd.underlying3 q4
  simp at k0 k1 k2 k3 k4 k5 k6 k7 k8 k9 m1 m2 m3 m4
  subst k0 k1 k2 k3 k4 k5 k6 k7 k8 k9 m1 m2 m3 m4
  exact ⟨b0, b1, b2, b3, b4, b5, b6, b7, b8, b9, a1, a2, a3, a4, rfl⟩
/-- The table of powers, out of the row's cell. -/
theorem pw_of_laid {W : World} (hL : laidMetH Tryd.prog Rows.configPrintsRow.laid W) : Pw W := by
  rw [MakeChecks.laidMetH_plain _ _ _ (by kernel_rfl)] at hL
  obtain ⟨ps, ⟨g1, t1, c1, f1, p1, q1, _, _, _, _, ⟨g2, t2, c2, f2, p2, q2, _, _, _, _, ⟨g3, t3, c3, f3, p3, q3, hg, ht, hv, hd, _, _⟩, _⟩, _⟩, _⟩ := hL
  obtain ⟨g, hg'⟩ := gpow
  have hty : (Tryd.prog.globalNamed "internal/strconv.uint64pow10").bind (fun g => (Tryd.prog.globals[g]?).map (·.type)) = some 105 := by kernel_rfl
  rw [hg, Option.bind_some, ht] at hty
  obtain rfl := Option.some.inj hty
  show W.var? Tryd.prog _ = _
  rw [hv]
  have := Lib.cells_of_tab (k := .u64) (zs := Lib.pow10Tab) Tryd.underlying105 Tryd.underlying88 (by kernel_rfl) (by kernel_rfl) hd
  rw [← this]
namespace configPrints
theorem own : ownKnob Tryd.prog.godebug = none := by kernel_rfl
theorem laidOut : laidOutB Tryd.prog = true := by kernel_rfl
theorem maxLenAt {w : World} (h : w.ShapedOpen Tryd.prog) : ∃ m, w.cell? ⟨0, 0, none⟩ = some (.int .i64 m) :=
  Go.Proofs.cell_of_shapedOpen_int (zero := #[.int .i64 0]) (t := 3) h (of_decide_eq_true (by kernel_rfl)) (by kernel_rfl) rfl (by kernel_rfl) (by kernel_rfl) Tryd.underlying3
set_option maxRecDepth 100000 in
theorem lifted (os : Os) (started : os.Started) (H : Type) (enc : TypeId × Value → H) :
    ReturnsInHanded {} Tryd.checked os 6 .any (fun w args => (Rows.configPrintsSpec.pre enc Tryd.prog Tryd.f6 Rows.configPrintsRow.domain false w args ∧ laidMetH Tryd.prog Rows.configPrintsRow.laid w) ∧ sizedMet enc Tryd.prog Tryd.f6 (OpenSpec.ofChange Rows.configPrintsSpec) false w args)
      (Rows.configPrintsSpec.post enc Tryd.prog Tryd.f6 false true false false) := by
  refine returnsInHanded_of_calls own started (by kernel_rfl)
    (ChangeSpec.witness_shaped (enc := enc) (C := Tryd.checked) (os := os) (X := fun w _ => laidMetH Tryd.prog Rows.configPrintsRow.laid w) false (World.laidAll Tryd.prog os Rows.configPrintsRow.laid) #[.agg #[.bool false, .bool false, .bool false, .bool false, .bool false, .bool false, .bool false, .bool false, .bool false, .bool false, .int .i64 0, .int .i64 0, .int .i64 0, .int .i64 0]] 8 (World.laidAll_os _ _ _)
      (World.shaped_of_ZipB (by kernel_rfl) (by kernel_rfl)) (by kernel_rfl) (by kernel_rfl) (by kernel_rfl)
      (by rw [MakeChecks.laidMetH_plain _ _ _ (by kernel_rfl)]; exact laidMet_laidAll _ (by kernel_rfl) (by kernel_rfl))) ?_
  intro w0 tape inp _ hshape _ hok hpre _
  obtain ⟨_, _, _, fn', hfn', _, _, _, _, hval1⟩ := hok
  obtain rfl : fn' = Tryd.f6 := Option.some.inj (hfn'.symm.trans Tryd.func6)
  obtain ⟨⟨⟨ds, gs, before, hw1, hc⟩, hL0⟩, hz0⟩ := hpre
  have hW0 := DataW.Whole.of_heap (w' := w0.forCall tape inp) (by rfl) hw1
  obtain ⟨m, hm⟩ := maxLenAt hshape
  have hpw0 : Pw (w0.forCall tape inp).memory := pw_of_laid hL0
  have hpw : Pw (w0.forCall tape inp) := hpw0
  clear hpw0
  clear hw1 hL0 hz0 hshape
  generalize w0.heap.size = base at hval1
  generalize w0.forCall tape inp = W at *
  generalize inp.args = args at *
  suffices hS : Calls Tryd.prog 6 args W fun e W' => ∃ v, e = .returned v ∧ Rows.configPrintsSpec.post enc Tryd.prog Tryd.f6 false true false false W args v W' by
    refine hS.mono fun e W' ⟨v, he, hp⟩ => ?_
    subst he
    exact ChangeSpec.post_blind hp
  have hval : ∀ (j : Nat) t v, Tryd.f6.params[j]? = some t → args[j]? = some v → Value.okWide Tryd.prog W .any base t v := hval1
  have hW' := hW0
  obtain ⟨p, q, hA0, hV, rfl, _, _⟩ := hW0
  have hA : DataW.TrodAll enc Tryd.prog W 0 (fun _ => true) true Tryd.f6.params.toList args.toList ds p := hA0
  rw [Tryd.params6] at hA hval
  obtain ⟨v0, vs0, d0, ds0, p0, q0, hargs, rfl, rfl, h0, r0⟩ := trodAll_cons hA
  obtain ⟨rfl, rfl, rfl⟩ := trodAll_nil r0
  obtain rfl : args = #[v0] := by cases args; simp_all
  obtain ⟨rfl, rfl⟩ := trodVars_none hV
  have k0 := h0
  have lt0 : ∀ x ∈ p0, x.block < W.heap.size := by obtain ⟨m, hm⟩ := k0; exact DataW.trod_lt m _ _ _ hm
  obtain ⟨b0, b1, b2, b3, b4, b5, b6, b7, b8, b9, x, y, z, u, rfl⟩ := cfg_open (hval 0 28 v0 rfl rfl) h0
  clear hA0 hval1
  refine (prints6 ⟨fun i => match i with | 0 => b0 | 1 => b1 | 2 => b2 | 3 => b3 | 4 => b4 | 5 => b5 | 6 => b6 | 7 => b7 | 8 => b8 | _ => b9, x, y, z, u⟩ m W hm hpw).mono fun e W' ⟨he, bel⟩ => ?_
  subst he
  exact ⟨_, rfl, _, _, _, [], _, [], hW', trodAll_mk1 (shut_bool Tryd.underlying4 _), (trodAll_cons_mk (Below.trod laidOut (by kernel_rfl) (of_decide_eq_true (by kernel_rfl)) k0 bel lt0) trodAll_mk0), rfl, bel.frame _, fun h => by cases h⟩
theorem over : Rows.configPrintsRow.holds Tryd.pinned (OpenSpec.ofChange Rows.configPrintsSpec) :=
  OpenClaim.holds_of_wide 6 Tryd.f6 rfl rfl rfl rfl rfl rfl rfl ⟨rfl, rfl, rfl, rfl, rfl⟩ rfl rfl rfl rfl rfl (by kernel_rfl) Tryd.func6 (by kernel_rfl)
    (of_decide_eq_true (by kernel_rfl)) (by unfold Func.isWrapper; first | (rw [if_pos (by decide +kernel)]; kernel_rfl) | (rw [if_neg (by decide +kernel)]; exact ⟨rfl, rfl⟩))
    (fun os started H enc _ => lifted os started H enc)
end configPrints
/-- The card of ConfigPrints holds. -/
theorem configPrintsCard_holds : Rows.ConfigPrintsCardSaid :=
  Claim7.holds_tied_plain_at .later [] [.data, .data, .data, .data, .sentinel, .sentinel, .pinned] true (true, "f46b92663623f6b3f39fdc60e263bf241bf09af023ece41d3d974f55b14c8549") true
    configPrints.over (fun _ h => by cases h) (by kernel_rfl) (fun _ h => by cases h) configPrints_row_tie rfl ⟨rfl, rfl⟩ (by kernel_rfl) rfl
    (fun f fn hf hfn => by
      obtain rfl : f = 6 := Option.some.inj ((show Tryd.prog.funcNamed "corrector/correctorlaw18.ConfigPrints" = some 6 by kernel_rfl).symm.trans hf) |>.symm
      obtain rfl : fn = Tryd.f6 := (Option.some.inj (Tryd.func6.symm.trans hfn)).symm
      exact ⟨by kernel_rfl, fun j t ht => by
        rw [Tryd.params6] at ht
        have hm : t ∈ [28] := by simpa using Array.mem_of_getElem? ht
        have hall : ([28].all fun u => !Tryd.prog.wantsStandIn u) = true := by kernel_rfl
        exact (show Tryd.prog.wantsStandIn t = false by simpa using List.all_eq_true.1 hall t hm)⟩)
    (by kernel_rfl)
#print axioms configPrintsCard_holds
end Go.Proofs.YtcbmeklhmajglaaDoor
end
