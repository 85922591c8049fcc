/- A part of the proof: an interpreter of the program, shown right once, and the laws that it computes. -/
import Derived.Test.YtallkpebijgghaaDoorCK4
import Derived.Test.YtallkpebijgghaaDoorRows
import Derived.Test.YtallkpebijgghaaDoorTie
import Derived.Test.YtallkpebijgghaaDoorCards
import Derived.WalkKit
import Derived.ProofKit
import Derived.OpenShut
import Derived.ChangeOld
import Derived.ChangeArms
import Derived.Carry
import Derived.Below
import Derived.SizedLaws
import Derived.LaidMore
import Derived.Lay
import Derived.SevenTiedAt
import Derived.Stop.Joined
namespace Go.Proofs.YtallkpebijgghaaDoor
open Go.ChangeShapes Go.WideShapes Go.ChangeAt Go.RowKit
set_option linter.unusedVariables false
namespace configChecks
theorem own : ownKnob Tryd.prog.godebug = none := by kernel_rfl
theorem laidOut : laidOutB Tryd.prog = true := by kernel_rfl
theorem cells24 : Tryd.prog.cellsOf 24 = 14 := by kernel_rfl
theorem cells22 : Tryd.prog.cellsOf 22 = 10 := by kernel_rfl
theorem cells4 : Tryd.prog.cellsOf 4 = 1 := by kernel_rfl
theorem cells3 : Tryd.prog.cellsOf 3 = 1 := by kernel_rfl
theorem some_at {α : Type} {l : List α} {n : Nat} (h : l.length = n) (i : Nat) (hi : i < n) : ∃ x, l[i]? = some x := ⟨_, List.getElem?_eq_getElem (by omega)⟩
theorem cons_of {α : Type} {l : List α} {n : Nat} (h : l.length = n + 1) : ∃ x r, l = x :: r ∧ r.length = n := by
  cases l with
  | nil => cases h
  | cons x r => exact ⟨x, r, rfl, by simpa using h⟩
theorem list14 {α : Type} (l : List α) (h : l.length = 14) : ∃ c0 c1 c2 c3 c4 c5 c6 c7 c8 c9 c10 c11 c12 c13, l = [c0, c1, c2, c3, c4, c5, c6, c7, c8, c9, c10, c11, c12, c13] := by
  obtain ⟨c0, r0, rfl, h0⟩ := cons_of h
  obtain ⟨c1, r1, rfl, h1⟩ := cons_of h0
  obtain ⟨c2, r2, rfl, h2⟩ := cons_of h1
  obtain ⟨c3, r3, rfl, h3⟩ := cons_of h2
  obtain ⟨c4, r4, rfl, h4⟩ := cons_of h3
  obtain ⟨c5, r5, rfl, h5⟩ := cons_of h4
  obtain ⟨c6, r6, rfl, h6⟩ := cons_of h5
  obtain ⟨c7, r7, rfl, h7⟩ := cons_of h6
  obtain ⟨c8, r8, rfl, h8⟩ := cons_of h7
  obtain ⟨c9, r9, rfl, h9⟩ := cons_of h8
  obtain ⟨c10, r10, rfl, h10⟩ := cons_of h9
  obtain ⟨c11, r11, rfl, h11⟩ := cons_of h10
  obtain ⟨c12, r12, rfl, h12⟩ := cons_of h11
  obtain ⟨c13, r13, rfl, h13⟩ := cons_of h12
  obtain rfl := List.length_eq_zero_iff.1 h13
  exact ⟨c0, c1, c2, c3, c4, c5, c6, c7, c8, c9, c10, c11, c12, c13, rfl⟩
set_option maxRecDepth 100000 in
theorem cfg_open {H : Type} {enc : TypeId × Value → H} {W : World} {base b0' : Nat} {spare : Nat → Bool} {held : Bool} {r : Reach} {v : Value} {d : DataW H} {p : List MemPlace} (hv : Value.okWide Tryd.prog W r b0' 24 v)
    (h : DataW.Trod enc Tryd.prog W base spare held 24 v d p) : ∃ (b0 b1 b2 b3 b4 b5 b6 b7 b8 b9 : Bool) (x y z u : Int), v = cfgV b0 b1 b2 b3 b4 b5 b6 b7 b8 b9 x y z u := by
  obtain ⟨⟨l⟩, rfl, hsz⟩ := okWide_struct Tryd.underlying24 hv
  obtain ⟨c0, c1, c2, c3, c4, c5, c6, c7, c8, c9, c10, c11, c12, c13, rfl⟩ := list14 l (hsz.trans cells24)
  obtain ⟨fuel, hf⟩ := h
  obtain ⟨xs, n, rfl, hx, hl, hxl, hel⟩ := DataW.trod_struct Tryd.underlying24 hf
  obtain ⟨x0, e0⟩ := some_at hxl 0 (by decide)
  have f0 : DataW.trod enc Tryd.prog W base spare held n 22 (([c0, c1, c2, c3, c4, c5, c6, c7, c8, c9, c10, c11, c12, c13].drop 0).take (Tryd.prog.cellsOf 22)) = some x0 := (hel 0 _ rfl).trans e0
  rw [cells22] at f0
  obtain ⟨ys, m, rfl, hy, hyl, hyn, hey⟩ := DataW.trod_array Tryd.underlying22 f0
  rw [cells4] at hey
  obtain ⟨y0, g0⟩ := some_at hyn 0 (by decide)
  obtain ⟨b0, k0, _⟩ := DataW.trod_bool Tryd.underlying4 ((hey 0 (by decide)).trans g0)
  obtain ⟨y1, g1⟩ := some_at hyn 1 (by decide)
  obtain ⟨b1, k1, _⟩ := DataW.trod_bool Tryd.underlying4 ((hey 1 (by decide)).trans g1)
  obtain ⟨y2, g2⟩ := some_at hyn 2 (by decide)
  obtain ⟨b2, k2, _⟩ := DataW.trod_bool Tryd.underlying4 ((hey 2 (by decide)).trans g2)
  obtain ⟨y3, g3⟩ := some_at hyn 3 (by decide)
  obtain ⟨b3, k3, _⟩ := DataW.trod_bool Tryd.underlying4 ((hey 3 (by decide)).trans g3)
  obtain ⟨y4, g4⟩ := some_at hyn 4 (by decide)
  obtain ⟨b4, k4, _⟩ := DataW.trod_bool Tryd.underlying4 ((hey 4 (by decide)).trans g4)
  obtain ⟨y5, g5⟩ := some_at hyn 5 (by decide)
  obtain ⟨b5, k5, _⟩ := DataW.trod_bool Tryd.underlying4 ((hey 5 (by decide)).trans g5)
  obtain ⟨y6, g6⟩ := some_at hyn 6 (by decide)
  obtain ⟨b6, k6, _⟩ := DataW.trod_bool Tryd.underlying4 ((hey 6 (by decide)).trans g6)
  obtain ⟨y7, g7⟩ := some_at hyn 7 (by decide)
  obtain ⟨b7, k7, _⟩ := DataW.trod_bool Tryd.underlying4 ((hey 7 (by decide)).trans g7)
  obtain ⟨y8, g8⟩ := some_at hyn 8 (by decide)
  obtain ⟨b8, k8, _⟩ := DataW.trod_bool Tryd.underlying4 ((hey 8 (by decide)).trans g8)
  obtain ⟨y9, g9⟩ := some_at hyn 9 (by decide)
  obtain ⟨b9, k9, _⟩ := DataW.trod_bool Tryd.underlying4 ((hey 9 (by decide)).trans g9)
  obtain ⟨x1, e1⟩ := some_at hxl 1 (by decide)
  have q1 : DataW.trod enc Tryd.prog W base spare held _ 3 (([c0, c1, c2, c3, c4, c5, c6, c7, c8, c9, c10, c11, c12, c13].drop 10).take (Tryd.prog.cellsOf 3)) = some x1 := (hel 1 _ rfl).trans e1
  rw [cells3] at q1
  obtain ⟨a1, m1, _⟩ := DataW.trod_int Tryd.underlying3 q1
  obtain ⟨x2, e2⟩ := some_at hxl 2 (by decide)
  have q2 : DataW.trod enc Tryd.prog W base spare held _ 3 (([c0, c1, c2, c3, c4, c5, c6, c7, c8, c9, c10, c11, c12, c13].drop 11).take (Tryd.prog.cellsOf 3)) = some x2 := (hel 2 _ rfl).trans e2
  rw [cells3] at q2
  obtain ⟨a2, m2, _⟩ := DataW.trod_int Tryd.underlying3 q2
  obtain ⟨x3, e3⟩ := some_at hxl 3 (by decide)
  have q3 : DataW.trod enc Tryd.prog W base spare held _ 3 (([c0, c1, c2, c3, c4, c5, c6, c7, c8, c9, c10, c11, c12, c13].drop 12).take (Tryd.prog.cellsOf 3)) = some x3 := (hel 3 _ rfl).trans e3
  rw [cells3] at q3
  obtain ⟨a3, m3, _⟩ := DataW.trod_int Tryd.underlying3 q3
  obtain ⟨x4, e4⟩ := some_at hxl 4 (by decide)
  have q4 : DataW.trod enc Tryd.prog W base spare held _ 3 (([c0, c1, c2, c3, c4, c5, c6, c7, c8, c9, c10, c11, c12, c13].drop 13).take (Tryd.prog.cellsOf 3)) = some x4 := (hel 4 _ rfl).trans e4
  rw [cells3] at q4
  obtain ⟨a4, m4, _⟩ := DataW.trod_int Tryd.underlying3 q4
  simp at k0 k1 k2 k3 k4 k5 k6 k7 k8 k9 m1 m2 m3 m4
  subst k0 k1 k2 k3 k4 k5 k6 k7 k8 k9 m1 m2 m3 m4
  exact ⟨b0, b1, b2, b3, b4, b5, b6, b7, b8, b9, a1, a2, a3, a4, rfl⟩
set_option maxRecDepth 100000 in
theorem lifted (os : Os) (started : os.Started) (H : Type) (enc : TypeId × Value → H) :
    ReturnsInHanded {} Tryd.checked os 3 .any (fun w args => (Rows.configChecksSpec.pre enc Tryd.prog Tryd.f3 Rows.configChecksRow.domain false w args ∧ laidMetH Tryd.prog Rows.configChecksRow.laid w) ∧ sizedMet enc Tryd.prog Tryd.f3 (OpenSpec.ofChange Rows.configChecksSpec) false w args)
      (Rows.configChecksSpec.post enc Tryd.prog Tryd.f3 false true false false) := by
  refine returnsInHanded_of_change_and (C := Tryd.checked) (X := fun w _ => laidMetH Tryd.prog Rows.configChecksRow.laid w) (fun _ _ _ hh h => h.of_heap hh) own started (by kernel_rfl) Tryd.func3
    (ChangeSpec.witness_shaped (enc := enc) (C := Tryd.checked) (os := os) (X := fun w _ => laidMetH Tryd.prog Rows.configChecksRow.laid w) false (World.laidAll Tryd.prog os Rows.configChecksRow.laid) #[cfgV false false false false false false false false false false 0 0 0 0, .int .i64 0, .bool false] 8 (World.laidAll_os _ _ _)
      (World.shaped_of_ZipB (by kernel_rfl) (by kernel_rfl)) (by kernel_rfl) (by kernel_rfl) (by kernel_rfl)
      (by rw [MakeChecks.laidMetH_plain _ _ _ (by kernel_rfl)]; exact laidMet_laidAll _ (by kernel_rfl) (by kernel_rfl))) ?_
  intro W base args ds gs before hval0 hW hc _ hL _
  have hval : ∀ (j : Nat) t v, Tryd.f3.params[j]? = some t → args[j]? = some v → Value.okWide Tryd.prog W .any base t v := hval0
  have hW' := hW
  obtain ⟨p, q, hA0, hV, rfl, _, _⟩ := hW
  have hA : DataW.TrodAll enc Tryd.prog W 0 (fun _ => true) true Tryd.f3.params.toList args.toList ds p := hA0
  rw [Tryd.params3] at hA hval
  obtain ⟨v0, vs0, d0, ds0, p0, q0, hargs, rfl, rfl, h0, r0⟩ := trodAll_cons hA
  obtain ⟨v1, vs1, d1, ds1, p1, q1, rfl, rfl, rfl, h1, r1⟩ := trodAll_cons r0
  obtain ⟨v2, vs2, d2, ds2, p2, q2, rfl, rfl, rfl, h2, r2⟩ := trodAll_cons r1
  obtain ⟨rfl, rfl, rfl⟩ := trodAll_nil r2
  obtain rfl : args = #[v0, v1, v2] := by cases args; simp_all
  obtain ⟨rfl, rfl⟩ := trodVars_none hV
  have k0 := h0
  have lt0 : ∀ x ∈ p0, x.block < W.heap.size := by obtain ⟨m, hm⟩ := k0; exact DataW.trod_lt m _ _ _ hm
  obtain ⟨b0, b1, b2, b3, b4, b5, b6, b7, b8, b9, x, y, z, u, rfl⟩ := cfg_open (hval 0 24 v0 rfl rfl) h0
  obtain ⟨a1, rfl, rfl, rfl, w1⟩ := open_int Tryd.underlying3 (hval 1 3 v1 rfl rfl) h1
  obtain ⟨a2, rfl, rfl, rfl⟩ := open_bool Tryd.underlying4 (hval 2 4 v2 rfl rfl) h2
  clear hA0 hval0
  refine (checks_walk (fun i => match i with | 0 => b0 | 1 => b1 | 2 => b2 | 3 => b3 | 4 => b4 | 5 => b5 | 6 => b6 | 7 => b7 | 8 => b8 | _ => b9) x y z u a1 a2 W).mono fun e W' ⟨he, bel⟩ => ?_
  subst he
  exact ⟨_, rfl, _, _, _, [], _, [], hW', trodAll_mk1 (shut_bool Tryd.underlying4 _), (trodAll_cons_mk (Below.trod laidOut (by kernel_rfl) (of_decide_eq_true (by kernel_rfl)) k0 bel lt0) (trodAll_cons_mk (shut_int Tryd.underlying3 w1) (trodAll_cons_mk (shut_bool Tryd.underlying4 _) trodAll_mk0))), rfl, bel.frame _, fun h => by cases h⟩
theorem over : Rows.configChecksRow.holds Tryd.pinned (OpenSpec.ofChange Rows.configChecksSpec) :=
  OpenClaim.holds_of_wide 3 Tryd.f3 rfl rfl rfl rfl rfl rfl rfl ⟨rfl, rfl, rfl, rfl, rfl⟩ rfl rfl rfl rfl rfl (by kernel_rfl) Tryd.func3 (by kernel_rfl)
    (of_decide_eq_true (by kernel_rfl)) (by unfold Func.isWrapper; first | (rw [if_pos (by decide +kernel)]; kernel_rfl) | (rw [if_neg (by decide +kernel)]; exact ⟨rfl, rfl⟩))
    (fun os started H enc _ => lifted os started H enc)
end configChecks
/-- The card of ConfigChecks holds. -/
theorem configChecksCard_holds : Rows.ConfigChecksCardSaid :=
  Claim7.holds_tied_plain_at .later [] [.data, .data, .data, .data, .sentinel, .sentinel, .pinned] true (true, "182cabd1982734a6098edaa7c318454e3098f48c59ad1b7464855861ae6f2184") true
    configChecks.over (fun _ h => by cases h) (by kernel_rfl) (fun _ h => by cases h) configChecks_row_tie rfl ⟨rfl, rfl⟩ (by kernel_rfl) rfl
    (fun f fn hf hfn => by
      obtain rfl : f = 3 := Option.some.inj ((show Tryd.prog.funcNamed "corrector/correctorlaw18.ConfigChecks" = some 3 by kernel_rfl).symm.trans hf) |>.symm
      obtain rfl : fn = Tryd.f3 := (Option.some.inj (Tryd.func3.symm.trans hfn)).symm
      exact ⟨by kernel_rfl, fun j t ht => by
        rw [Tryd.params3] at ht
        have hm : t ∈ [24, 3, 4] := by simpa using Array.mem_of_getElem? ht
        have hall : ([24, 3, 4].all fun u => !Tryd.prog.wantsStandIn u) = true := by kernel_rfl
        exact (show Tryd.prog.wantsStandIn t = false by simpa using List.all_eq_true.1 hall t hm)⟩)
    (by kernel_rfl)
#print axioms configChecksCard_holds
end Go.Proofs.YtallkpebijgghaaDoor
