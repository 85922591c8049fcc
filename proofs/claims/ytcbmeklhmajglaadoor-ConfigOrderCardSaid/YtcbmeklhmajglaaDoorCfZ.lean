/- A part of the proof: what the functions of the program compute, shown once each; the last text holds the statement. No condition beyond those of the statement. -/
import Derived.Test.YtcbmeklhmajglaaDoorCfB
set_option linter.unusedSimpArgs false
set_option linter.unusedVariables false
namespace Go.Proofs.YtcbmeklhmajglaaDoor
open Go.RowKit Go.CfgLaw Go.Proofs.YtcbmeklhmajglaaDoorW.PrintWords Go.Proofs.YtcbmeklhmajglaaDoorW.PrintLast Go.Proofs.YtcbmeklhmajglaaDoorW.PrintMore
set_option linter.unusedVariables false
attribute [local go_sem] setCell_drewN alloc_drewN
attribute [local simp] setCell_drewN alloc_drewN
theorem heap_al_eq {W : World} {o : Obj} {q : Nat} (h : q ≠ W.heap.size) : (W.alloc o).heap[q]? = W.heap[q]? := by
  show (W.heap.push o)[q]? = _
  rw [Array.getElem?_push, if_neg h]
def fstC : Code → Code
  | .seq a _ => a
  | c => c
def sndC : Code → Code
  | .seq _ b => b
  | c => c
def inC : Code → Code
  | .block _ c => c
  | .loop c => c
  | c => c
def allC : Option Code → Code
  | some c => c
  | none => .skip
/-- The region that reads a line and lays what came of it. -/
noncomputable def r9 : Code := (fstC (sndC (inC (fstC (sndC (inC (inC (sndC (fstC (sndC (sndC (sndC (sndC (allC Tryd.f10.body))))))))))))))
theorem r9_is : ∃ ops, r9 = .region 9 ops true := ⟨_, rfl⟩
set_option maxRecDepth 100000 in
set_option maxHeartbeats 20000000 in
theorem reg9 (s : ByteArray) (a i Q Z : Nat) (wr w0 : World) (hZ : w0.heap.size ≤ Z) (hiz : (i : Int) ≤ s.size) (h0z : (0 : Int) ≤ i) (h0a : (0 : Int) ≤ a) (haz : (a : Int) ≤ i)
    (on : Nat → Bool) (ca cb cc cd : Int) (hb : wr.heap[Q]? = some (.cells #[.bool (on 0), .bool (on 1), .bool (on 2), .bool (on 3), .bool (on 4), .bool (on 5), .bool (on 6), .bool (on 7), .bool (on 8), .bool (on 9), .int .i64 ca, .int .i64 cb, .int .i64 cc, .int .i64 cd] 28)) (hr : wr.heap[Z]? = some (.cells #[.bool false, .bool false, .bool false, .bool false, .bool false, .bool false, .bool false, .bool false, .bool false, .bool false, .int .i64 0, .int .i64 0, .int .i64 0, .int .i64 0] 28)) (hB : Below w0.heap.size w0 wr)
    (L : List (List UInt8)) (hw21 : ∀ (w : World), Calls Tryd.prog 21 #[.string (s.extract a i)] w fun e w' => ∃ A c, e = .returned (.slice A L.length c) ∧ L.length ≤ c ∧ Kd.string.C w' A L.length (L.map ofL) ∧ Below w.heap.size w w')
    (r : Option Cfg) (hl20 : ∀ (A : Option Addr) (c : Nat) (w : World), Kd.string.C w A L.length (L.map ofL) → L.length ≤ c → Calls Tryd.prog 20 #[cv ⟨on, ca, cb, cc, cd⟩, .slice A L.length c] w fun e w' => ∃ g, e = .returned (.tuple #[cv g, .bool r.isSome]) ∧ (∀ f', r = some f' → g = f') ∧ Below w.heap.size w w')
    (x1 x2 x3 x7 x8 x9 x10 x11 x12 x13 x14 x15 x16 x17 x18 x19 x20 x21 x22 x23 x24 x25 x26 x27 x28 x29 x30 x31 x32 x33 x34 x35 x36 x37 x38 x39 x40 x41 x42 x43 x44 x45 x46 x47 x48 x49 x50 x51 x52 x53 : Value) (X : Exit → Act → World → Prop)
    (hK : ∀ (q : Nat) (A : Option Addr) (cp : Nat) (gg : Cfg) (W5 : World), (∀ f', r = some f' → gg = f') → W5.heap[q]? = some (.cells #[.bool (gg.on 0), .bool (gg.on 1), .bool (gg.on 2), .bool (gg.on 3), .bool (gg.on 4), .bool (gg.on 5), .bool (gg.on 6), .bool (gg.on 7), .bool (gg.on 8), .bool (gg.on 9), .int .i64 gg.a, .int .i64 gg.b, .int .i64 gg.c, .int .i64 gg.d] 28) → W5.heap[Q]? = some (.cells #[.bool (on 0), .bool (on 1), .bool (on 2), .bool (on 3), .bool (on 4), .bool (on 5), .bool (on 6), .bool (on 7), .bool (on 8), .bool (on 9), .int .i64 ca, .int .i64 cb, .int .i64 cc, .int .i64 cd] 28) → W5.heap[Z]? = some (.cells #[.bool false, .bool false, .bool false, .bool false, .bool false, .bool false, .bool false, .bool false, .bool false, .bool false, .int .i64 0, .int .i64 0, .int .i64 0, .int .i64 0] 28) → Below w0.heap.size w0 W5 → q ≠ Q → q ≠ Z → X .normal ⟨#[.string s, x1, x2, x3, .pointer (some ⟨Q, 0, none⟩), .int .i64 (a : Int), .int .i64 (i : Int), .pointer (some ⟨q, 0, none⟩), .bool r.isSome, x9, x10, x11, x12, x13, x14, x15, x16, x17, x18, x19, x20, x21, x22, x23, x24, x25, x26, x27, x28, x29, x30, .tuple #[.agg #[.bool (gg.on 0), .bool (gg.on 1), .bool (gg.on 2), .bool (gg.on 3), .bool (gg.on 4), .bool (gg.on 5), .bool (gg.on 6), .bool (gg.on 7), .bool (gg.on 8), .bool (gg.on 9), .int .i64 gg.a, .int .i64 gg.b, .int .i64 gg.c, .int .i64 gg.d], .bool r.isSome], .agg #[.bool (on 0), .bool (on 1), .bool (on 2), .bool (on 3), .bool (on 4), .bool (on 5), .bool (on 6), .bool (on 7), .bool (on 8), .bool (on 9), .int .i64 ca, .int .i64 cb, .int .i64 cc, .int .i64 cd], .string s, .int .i64 (a : Int), .int .i64 (i : Int), .string (s.extract a i), .slice A L.length cp, .tuple #[.agg #[.bool (gg.on 0), .bool (gg.on 1), .bool (gg.on 2), .bool (gg.on 3), .bool (gg.on 4), .bool (gg.on 5), .bool (gg.on 6), .bool (gg.on 7), .bool (gg.on 8), .bool (gg.on 9), .int .i64 gg.a, .int .i64 gg.b, .int .i64 gg.c, .int .i64 gg.d], .bool r.isSome], .agg #[.bool (gg.on 0), .bool (gg.on 1), .bool (gg.on 2), .bool (gg.on 3), .bool (gg.on 4), .bool (gg.on 5), .bool (gg.on 6), .bool (gg.on 7), .bool (gg.on 8), .bool (gg.on 9), .int .i64 gg.a, .int .i64 gg.b, .int .i64 gg.c, .int .i64 gg.d], .bool r.isSome, x41, x42, x43, x44, x45, x46, x47, x48, x49, x50, x51, x52, x53], []⟩ W5) :
    Code.wp Tryd.prog r9 X ⟨#[.string s, x1, x2, x3, .pointer (some ⟨Q, 0, none⟩), .int .i64 (a : Int), .int .i64 (i : Int), x7, x8, x9, x10, x11, x12, x13, x14, x15, x16, x17, x18, x19, x20, x21, x22, x23, x24, x25, x26, x27, x28, x29, x30, x31, x32, x33, x34, x35, x36, x37, x38, x39, x40, x41, x42, x43, x44, x45, x46, x47, x48, x49, x50, x51, x52, x53], []⟩ wr := by
  have n1 : Q ≠ wr.heap.size := Nat.ne_of_lt (heap_lt hb)
  have n2 : Z ≠ wr.heap.size := Nat.ne_of_lt (heap_lt hr)
  have n1' := Ne.symm n1
  have n2' := Ne.symm n2
  have b0 := cellrow hb
  have HK := Aside0.mk hK
  clear hK
  dsimp only [r9, allC, fstC, sndC, inC, Tryd.f10]
  go_region_held3 (fun V => ∀ j : Nat, V.cell? ⟨Q, j, none⟩ = (#[.bool (on 0), .bool (on 1), .bool (on 2), .bool (on 3), .bool (on 4), .bool (on 5), .bool (on 6), .bool (on 7), .bool (on 8), .bool (on 9), .int .i64 ca, .int .i64 cb, .int .i64 cc, .int .i64 cd] : Array Value)[j]?) (first | (with_reducible exact cellrow e4) | (with_reducible exact cellrow (heap_al e4)) | (with_reducible exact cellrow ((set14_ne n1' _ _ _ _ _ _ _ _ _ _ _ _ _ _).trans e4)) | (with_reducible exact cellrow ((set14_ne m1' _ _ _ _ _ _ _ _ _ _ _ _ _ _).trans e4)) | (with_reducible exact cellrow e3) | (with_reducible exact cellrow (heap_al e3)) | exact cellrow hb | exact cellrow (heap_al hb) | fail) (first
    | (go_at_call 21; (with_reducible refine (hw21 wr.drew).mono ?_); rintro e w3 ⟨A, cp, rfl, hcp, hC, hB3⟩; have e3 := keepb hB3 (id hb); have g3 := keepb hB3 (id hr); have L3 : Below w0.heap.size w0 w3 := belK hB.drew hB3; have m1 : Q ≠ w3.heap.size := Nat.ne_of_lt (heap_lt e3); have m2 : Z ≠ w3.heap.size := Nat.ne_of_lt (heap_lt g3); have m1' := Ne.symm m1; have m2' := Ne.symm m2; have hC2 : ∀ o, Kd.C Kd.string (w3.alloc o) A L.length (L.map ofL) := fun o => Kd.C_below hC (Below.alloc (Below.refl _ _) (Nat.le_refl _) o); have d3 := cellrow e3)
    | (go_at_call 21; (with_reducible refine (hw21 (wr.alloc _).drew).mono ?_); rintro e w3 ⟨A, cp, rfl, hcp, hC, hB3⟩; have e3 := keepb hB3 (heap_al hb); have g3 := keepb hB3 (heap_al hr); have L3 : Below w0.heap.size w0 w3 := belK (hB.alloc hB.size _).drew hB3; have z3 := keepb hB3 (heap_alloc_new wr _); have m1 : Q ≠ w3.heap.size := Nat.ne_of_lt (heap_lt e3); have m2 : Z ≠ w3.heap.size := Nat.ne_of_lt (heap_lt g3); have m1' := Ne.symm m1; have m2' := Ne.symm m2; have hC2 : ∀ o, Kd.C Kd.string (w3.alloc o) A L.length (L.map ofL) := fun o => Kd.C_below hC (Below.alloc (Below.refl _ _) (Nat.le_refl _) o); have d3 := cellrow e3)
    | (go_at_call 20; have zz := z3; (with_reducible refine (hl20 _ _ w3 (by exact hC) hcp).mono ?_); rintro e w4 ⟨gg, rfl, hgg, hB4⟩; have HGG := Aside0.mk hgg; clear hgg; have e4 := keepb hB4 (e3); have g4 := keepb hB4 (g3); have L4 : Below w0.heap.size w0 w4 := belK (L3) hB4; have z4 := keepb hB4 z3; have fz4 := fun j => froz z4 j; have y4 := cellrow z4; have fe4 := fun j => froz e4 j; have fg4 := fun j => froz g4 j; have d4 := cellrow e4; have h4 := cellrow g4)
    | (go_at_call 20; (with_reducible refine (hl20 _ _ w3 (by exact hC) hcp).mono ?_); rintro e w4 ⟨gg, rfl, hgg, hB4⟩; have HGG := Aside0.mk hgg; clear hgg; have e4 := keepb hB4 (e3); have g4 := keepb hB4 (g3); have L4 : Below w0.heap.size w0 w4 := belK (L3) hB4; have fe4 := fun j => froz e4 j; have fg4 := fun j => froz g4 j; have d4 := cellrow e4; have h4 := cellrow g4)
    | (go_at_call 20; (with_reducible refine (hl20 _ _ (w3.alloc _) (by exact hC2 _) hcp).mono ?_); rintro e w4 ⟨gg, rfl, hgg, hB4⟩; have HGG := Aside0.mk hgg; clear hgg; have e4 := keepb hB4 (heap_al e3); have g4 := keepb hB4 (heap_al g3); have L4 : Below w0.heap.size w0 w4 := belK (L3.alloc L3.size _) hB4; have z4 := keepb hB4 (heap_alloc_new w3 _); have fz4 := fun j => froz z4 j; have y4 := cellrow z4; have fe4 := fun j => froz e4 j; have fg4 := fun j => froz g4 j; have d4 := cellrow e4; have h4 := cellrow g4)
    | fail)
  · exact HK.out _ _ _ _ _ HGG.out (heap_alloc_new w4 _) (heap_al e4) (heap_al g4) (L4.alloc L4.size _) (Ne.symm (Nat.ne_of_lt (heap_lt e4))) (Ne.symm (Nat.ne_of_lt (heap_lt g4)))
  · exact HK.out _ _ _ _ _ HGG.out (set14_heap z4 _ _ _ _ _ _ _ _ _ _ _ _ _ _) ((set14_ne m1' _ _ _ _ _ _ _ _ _ _ _ _ _ _).trans e4) ((set14_ne m2' _ _ _ _ _ _ _ _ _ _ _ _ _ _).trans g4) (set14_below L4 L3.size _ _ _ _ _ _ _ _ _ _ _ _ _ _) m1' m2'
  · exact HK.out _ _ _ _ _ HGG.out (set14_heap z4 _ _ _ _ _ _ _ _ _ _ _ _ _ _) ((set14_ne n1' _ _ _ _ _ _ _ _ _ _ _ _ _ _).trans e4) ((set14_ne n2' _ _ _ _ _ _ _ _ _ _ _ _ _ _).trans g4) (set14_below L4 hB.size _ _ _ _ _ _ _ _ _ _ _ _ _ _) n1' n2'
end Go.Proofs.YtcbmeklhmajglaaDoor
