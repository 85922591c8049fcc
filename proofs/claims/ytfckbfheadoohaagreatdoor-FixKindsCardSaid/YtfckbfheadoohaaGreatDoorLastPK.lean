/- A part of the proof: an interpreter of the program, shown right once, and the laws that it computes. -/
import Derived.RangeFuncNested
import Derived.RangeFuncBound
import Derived.RangeFuncCalls
import Derived.RangeFuncLeaves
import Derived.RangeFuncBox
import Derived.Shelf.Abstract
import Derived.Shelf.RegionOpen
import Derived.WalkKit
import Derived.OwnWalkIn
import Derived.TacticsInMore
import Derived.LoopNIn
import Derived.LoopIn
import Derived.ProofKit
import Derived.Laws.IdiomStrings
import Derived.KernelRfl
import Derived.Test.YtfckbfheadoohaaGreatDoorProg
import Derived.Test.YtfckbfheadoohaaGreatDoorEngLast
namespace Go.Proofs.YtfckbfheadoohaaGreatDoor
open Go.RowKit Go.Shelf
set_option linter.unusedVariables false
set_option maxHeartbeats 1000000 in
set_option maxRecDepth 100000 in
theorem text171 (cb co : Nat) (k : Int) (F T : Nat) (bb bo : Nat) (n c : Nat) (w : World) (h1 : F < T) (h2 : T ≤ c) (s : ByteArray) (hcb : cb < w.heap.size)
   (hb : w.cell? ⟨cb, co, none⟩ = some (.slice (some ⟨bb, bo, none⟩) n c))
   (hS : ∀ W, Below w.heap.size w W → (convert 25 9 (.slice (some ⟨bb, bo + F, none⟩) (T - F) (c - F))).run Tryz.prog W = .ok (.string s) W) :
    Calls Tryz.prog 171 #[.pointer (some ⟨cb, co, none⟩), .agg #[.int .i64 k, .int .i64 F, .int .i64 T]] w fun e w' => e = .returned (.string s) ∧ Below w.heap.size w w' := by
  have hB : Below w.heap.size w (w.alloc (Obj.cells #[Value.int IntKind.i64 k, Value.int IntKind.i64 F, Value.int IntKind.i64 T] 129)) := (Below.refl _ w).alloc (Nat.le_refl _) _
  have hb1 : (w.alloc (Obj.cells #[Value.int IntKind.i64 k, Value.int IntKind.i64 F, Value.int IntKind.i64 T] 129)).cell? ⟨cb, co, none⟩ = some (.slice (some ⟨bb, bo, none⟩) n c) := (hB.cell (p := ⟨cb, co, none⟩) hcb).trans hb
  have hS' := hS _ hB.drew
  go_enter Tryz.func171, Tryz.ntmps171
  go_wp2
  go_region
  go_wp2
  go_ret
  exact ⟨rfl, hB.drew⟩
attribute [local go_sem] Oper.semAt_some

theorem far_cell (W : World) (v : Value) (a b : Nat) (h : a ≠ b) : (W.setCell ⟨a, 0, none⟩ v).cell? ⟨b, 0, none⟩ = W.cell? ⟨b, 0, none⟩ := World.cell?_setCell_other _ _ _ _ (fun e => h (by cases e; rfl))
/-- What has come when k rounds are over. -/
def bUpto {α : Type} (f : Nat → α) (k : Nat) : List α := (List.range k).map f
theorem bUpto_succ {α : Type} (f : Nat → α) (k : Nat) : bUpto f (k + 1) = bUpto f k ++ [f k] := by simp [bUpto, List.range_succ]
theorem bUpto_length {α : Type} (f : Nat → α) (k : Nat) : (bUpto f k).length = k := by simp [bUpto]

abbrev Tok := Int × Int × Int
def tokV (x : Tok) : Value := .agg #[.int .i64 x.1, .int .i64 x.2.1, .int .i64 x.2.2]
def bIdx : Nat → Int
  | 0 => -1
  | j + 1 => j

set_option maxRecDepth 100000 in
set_option maxHeartbeats 2000000 in
theorem backward1_in (F : Fence) (n : Nat) (h7 : F.fn 241) (hro : F.round = none) (hn : 1 ≤ n) (l Bs n₀ b off len cap : Nat) (tk : Nat → Tok) (hreach : len ≤ 4611686018427387904) (hb : b < n₀) (J Jx : List { j : Nat // j < len } → World → Prop)
    (hY : ∀ pre x W, J pre W → pre.length < len → YieldAt F (n - 1) Tryz.prog l #[.int .i64 (x.1 : Int), tokV (tk x.1)] W fun e W' =>
      (e = .returned (.bool true) ∧ J (pre ++ [x]) W' ∧ Below n₀ W W') ∨ (e = .returned (.bool false) ∧ Jx (pre ++ [x]) W'))
    (W : World) (hBs : W.cell? ⟨Bs, 0, none⟩ = some (.slice (some ⟨b, off, none⟩) len cap))
    (hc0 : ∀ j, j < len → W.cell? ⟨b, off + j * 3, none⟩ = some (.int .i64 (tk j).1)) (hc1 : ∀ j, j < len → W.cell? ⟨b, off + j * 3 + 1, none⟩ = some (.int .i64 (tk j).2.1)) (hc2 : ∀ j, j < len → W.cell? ⟨b, off + j * 3 + 2, none⟩ = some (.int .i64 (tk j).2.2))
    (hBs0 : Bs < n₀) (h0 : J [] W) :
    CallsIn F n Tryz.prog 241 #[.func (.yield l) #[] #[], .pointer (some ⟨Bs, 0, none⟩)] W fun e W' => (∃ v, e = .returned v) ∧
      ((∃ ys : List { j : Nat // j < len }, ys.map (·.1) = bUpto (fun k => len - 1 - k) len ∧ J ys W') ∨ (∃ pre : List { j : Nat // j < len }, (∃ k, k ≤ len ∧ pre.map (·.1) = bUpto (fun k => len - 1 - k) k) ∧ Jx pre W')) := by
  refine callsIn_of_wp Tryz.func241 rfl h7 ?_ hro
  simp only [Tryz.ntmps241, List.size_toArray, List.length_cons, List.length_nil, Nat.reduceAdd, Nat.reduceSub, Array.replicate_succ, Array.replicate_zero, List.push_toArray, List.append_toArray, List.nil_append, List.cons_append]
  gi_wp2
  gi_loopw [3] (fun i wr => ∃ (j : Nat) (pre : List { j : Nat // j < len }), j ≤ len ∧ i = .int .i64 (bIdx j) ∧ pre.map (·.1) = bUpto (fun k => len - 1 - k) (len - j) ∧ J pre wr ∧ Below n₀ W wr)
    (fun i _ => (intOf i + 1).toNat)
  case atStart => exact ⟨len, [], Nat.le_refl _, by cases len <;> simp [bIdx], by simp [bUpto], h0, Below.refl _ _⟩
  case round =>
    obtain ⟨j, pre, hj, rfl, hpre, hJs, hnx⟩ := hrel
    have hBs' := (hnx.cell (p := ⟨Bs, 0, none⟩) hBs0).trans hBs
    cases j with
    | zero =>
      simp only [bIdx]
      gi_wp2
      go_end0
      exact ⟨⟨_, rfl⟩, .inl ⟨pre, by simpa using hpre, hJs⟩⟩
    | succ j =>
      have hlt : j < len := by omega
      have hd0 := (hnx.cell (p := ⟨b, off + j * 3, none⟩) hb).trans (hc0 j hlt)
      have hd1 := (hnx.cell (p := ⟨b, off + j * 3 + 1, none⟩) hb).trans (hc1 j hlt)
      have hd2 := (hnx.cell (p := ⟨b, off + j * 3 + 2, none⟩) hb).trans (hc2 j hlt)
      have hlen : pre.length = len - (j + 1) := by have := congrArg List.length hpre; simpa [bUpto_length] using this
      obtain ⟨fn, tmps, assign, body, hy, hR⟩ := hY pre ⟨j, hlt⟩ wr hJs (by omega)
      dsimp only [tokV] at hy
      simp only [bIdx]
      gi_wp2
      refine hR.mono ?_
      have hstep : bUpto (fun k => len - 1 - k) (len - j) = bUpto (fun k => len - 1 - k) (len - (j + 1)) ++ [j] := by
        rw [show len - j = (len - (j + 1)) + 1 by omega, bUpto_succ]
        congr 2
        omega
      rintro e W3 (⟨rfl, hJ3, hk3⟩ | ⟨rfl, hJx3⟩)
      · gi_wp2
        go_roundw
        case rel => exact ⟨j, pre ++ [⟨j, hlt⟩], by omega, by cases j <;> simp, by rw [List.map_append, hpre, hstep]; rfl, hJ3, hnx.trans hk3⟩
        case measure => simp only [intOf]; omega
      · gi_wp2
        refine bodyPost_ret (results_none rfl _ _ _) rfl ?_
        exact ⟨⟨_, rfl⟩, .inr ⟨_, ⟨len - j, by omega, by rw [List.map_append, hpre, hstep]; rfl⟩, hJx3⟩⟩

set_option maxRecDepth 100000 in
set_option maxHeartbeats 1000000 in
theorem backward1_nil_in (F : Fence) (n : Nat) (h7 : F.fn 241) (hro : F.round = none) (l Bs : Nat) (Jp : World → Prop) (W : World) (hBs : W.cell? ⟨Bs, 0, none⟩ = some (.slice none 0 0)) (h0 : Jp W) :
    CallsIn F n Tryz.prog 241 #[.func (.yield l) #[] #[], .pointer (some ⟨Bs, 0, none⟩)] W fun e W' => (∃ v, e = .returned v) ∧ Jp W' := by
  refine callsIn_of_wp Tryz.func241 rfl h7 ?_ hro
  simp only [Tryz.ntmps241, List.size_toArray, List.length_cons, List.length_nil, Nat.reduceAdd, Nat.reduceSub, Array.replicate_succ, Array.replicate_zero, List.push_toArray, List.append_toArray, List.nil_append, List.cons_append]
  gi_wp2
  gi_loopw [3] (fun i wr => i = .int .i64 (-1) ∧ Jp wr) (fun _ _ => 0)
  case atStart => exact ⟨by simp, h0⟩
  case round =>
    obtain ⟨rfl, hJs⟩ := hrel
    gi_wp2
    go_end0
    exact ⟨⟨_, rfl⟩, hJs⟩

set_option maxHeartbeats 1000000 in
theorem backward_in (F : Fence) (n : Nat) (h5 : F.fn 210) (hro : F.round = none) (a : Option Addr) (len cap : Nat) (w : World) :
    CallsIn F n Tryz.prog 210 #[.slice a len cap] w fun e w' => e = .returned (.func (.func 241) #[] #[.pointer (some ⟨w.heap.size, 0, none⟩)]) ∧ w' = w.alloc (.cells #[.slice a len cap] 54) := by
  refine callsIn_of_wp Tryz.func210 rfl h5 ?_ hro
  simp only [Tryz.ntmps210, List.size_toArray, List.length_cons, List.length_nil, Nat.reduceAdd, Nat.reduceSub, Array.replicate_succ, Array.replicate_zero, List.push_toArray, List.append_toArray, List.nil_append, List.cons_append]
  gi_wp2
  go_ret
  exact ⟨rfl, rfl⟩

/-- The slice value holds the tokens, in a block below n₀; or it is nil and there are none. -/
def Toks (n₀ : Nat) (W : World) (sv : Value) (len : Nat) (tk : Nat → Tok) : Prop :=
  (sv = .slice none 0 0 ∧ len = 0) ∨ ∃ b off cap, sv = .slice (some ⟨b, off, none⟩) len cap ∧ b < n₀ ∧ ∀ j, j < len → W.cell? ⟨b, off + j * 3, none⟩ = some (.int .i64 (tk j).1) ∧ W.cell? ⟨b, off + j * 3 + 1, none⟩ = some (.int .i64 (tk j).2.1) ∧ W.cell? ⟨b, off + j * 3 + 2, none⟩ = some (.int .i64 (tk j).2.2)
theorem Toks.below {n₀ : Nat} {A B : World} (h : Below n₀ A B) {sv : Value} {len : Nat} {tk : Nat → Tok} : Toks n₀ A sv len tk → Toks n₀ B sv len tk
  | .inl e => .inl e
  | .inr ⟨b, off, cap, e, hb, hc⟩ => .inr ⟨b, off, cap, e, hb, fun j hj => ⟨(h.cell (p := ⟨b, off + j * 3, none⟩) hb).trans (hc j hj).1, (h.cell (p := ⟨b, off + j * 3 + 1, none⟩) hb).trans (hc j hj).2.1, (h.cell (p := ⟨b, off + j * 3 + 2, none⟩) hb).trans (hc j hj).2.2⟩⟩

theorem backward_stops (F : Fence) (n : Nat) (h7 : F.fn 241) (hro : F.round = none) (hn : 1 ≤ n) (Bs n₀ : Nat) (sv : Value) (len : Nat) (tk : Nat → Tok) (hreach : len ≤ 4611686018427387904) (w : World) (hBs : Bs < w.heap.size) (hn₀ : n₀ ≤ w.heap.size)
    (hc : w.cell? ⟨Bs, 0, none⟩ = some sv) (hI : Toks n₀ w sv len tk) (hBs0 : Bs < n₀) :
    SeqStopsK F n Tryz.prog 241 #[.pointer (some ⟨Bs, 0, none⟩)] (fun x : { j : Nat // j < len } => #[Value.int .i64 (x.1 : Int), tokV (tk x.1)]) (Below n₀) (fun ys => ys.map (·.1) = bUpto (fun k => len - 1 - k) len)
      (fun pre => ∃ k, k ≤ len ∧ pre.map (·.1) = bUpto (fun k => len - 1 - k) k) len w := fun l J Jx W hW _ _ hY h0 => by
  have hc' := (hW.cell (p := ⟨Bs, 0, none⟩) hBs).trans hc
  rcases hI.below (hW.mono hn₀) with ⟨rfl, rfl⟩ | ⟨b, off, cap, rfl, hb, hcs⟩
  · exact (backward1_nil_in F n h7 hro l Bs (J []) W hc' h0).mono fun e W' ⟨he, hj⟩ => ⟨he, .inl ⟨[], by simp [bUpto], hj⟩⟩
  · exact backward1_in F n h7 hro hn l Bs n₀ b off len cap tk hreach hb J Jx hY W hc' (fun j hj => (hcs j hj).1) (fun j hj => (hcs j hj).2.1) (fun j hj => (hcs j hj).2.2) hBs0 h0

set_option maxRecDepth 100000 in
set_option maxHeartbeats 2000000 in
theorem last_in (n : Nat) (hn : 3 ≤ n) (cp : Option Addr) (sa : Option Addr) (cap : Nat) (K : Int) (len : Nat) (tk : Nat → Tok) (str : Nat → ByteArray) (hreach : len ≤ 4611686018427387904) (w : World) (hI : Toks w.heap.size w (.slice sa len cap) len tk)
    (hT : ∀ j, j < len → (tk j).1 = K → ∀ W, Below w.heap.size w W → Calls Tryz.prog 171 #[.pointer cp, tokV (tk j)] W fun e W' => e = .returned (.string (str j)) ∧ Below W.heap.size W W') :
    CallsIn Fence.wide n Tryz.prog 165 #[.pointer cp, .slice sa len cap, .int .i64 K] w fun e W' =>
      ((e = .returned (.tuple #[.string ⟨#[]⟩, .bool false]) ∧ ∀ j, j < len → (tk j).1 ≠ K) ∨ (∃ j, j < len ∧ (tk j).1 = K ∧ (∀ i, j < i → i < len → (tk i).1 ≠ K) ∧ e = .returned (.tuple #[.string (str j), .bool true]))) ∧ Below w.heap.size w W' := by
  have h1 : 1 ≤ n := by omega
  have hro : Fence.wide.round = none := rfl
  refine callsIn_of_wp_marks Tryz.func165 rfl trivial ?_ hro
  simp only [Tryz.ntmps165, List.size_toArray, List.length_cons, List.length_nil, Nat.reduceAdd, Nat.reduceSub, Array.replicate_succ, Array.replicate_zero, List.push_toArray, List.append_toArray, List.nil_append, List.cons_append]
  gi_wp2_with (refine ⟨trivial, ?_⟩; gi_at_call 210; refine (backward_in Fence.wide (n - 1) trivial hro _ _ _ _).mono ?_; rintro e w' ⟨rfl, rfl⟩)
  have bC := ((((Boxed.new w 91 (.pointer cp)).alloc (.cells #[.int .i64 K] 3)).alloc (.cells #[.string ⟨#[]⟩] 9)).alloc (.cells #[.bool false] 4)).alloc (.cells #[.slice sa len cap] 54)
  have bK := (((Boxed.new (w.alloc (.cells #[.pointer cp] 91)) 3 (.int .i64 K)).alloc (.cells #[.string ⟨#[]⟩] 9)).alloc (.cells #[.bool false] 4)).alloc (.cells #[.slice sa len cap] 54)
  have bS := ((Boxed.new ((w.alloc (.cells #[.pointer cp] 91)).alloc (.cells #[.int .i64 K] 3)) 9 (.string ⟨#[]⟩)).alloc (.cells #[.bool false] 4)).alloc (.cells #[.slice sa len cap] 54)
  have bB := (Boxed.new (((w.alloc (.cells #[.pointer cp] 91)).alloc (.cells #[.int .i64 K] 3)).alloc (.cells #[.string ⟨#[]⟩] 9)) 4 (.bool false)).alloc (.cells #[.slice sa len cap] 54)
  have bL := Boxed.new ((((w.alloc (.cells #[.pointer cp] 91)).alloc (.cells #[.int .i64 K] 3)).alloc (.cells #[.string ⟨#[]⟩] 9)).alloc (.cells #[.bool false] 4)) 54 (.slice sa len cap)
  simp only [World.size_alloc] at bK bS bB bL
  have hB0 : Below w.heap.size w (((((w.alloc (.cells #[.pointer cp] 91)).alloc (.cells #[.int .i64 K] 3)).alloc (.cells #[.string ⟨#[]⟩] 9)).alloc (.cells #[.bool false] 4)).alloc (.cells #[.slice sa len cap] 54)) :=
    (((((Below.refl _ w).alloc (Nat.le_refl _) _).alloc (by simp) _).alloc (by simp; omega) _).alloc (by simp; omega) _).alloc (by simp; omega) _
  have hsz : (((((w.alloc (.cells #[.pointer cp] 91)).alloc (.cells #[.int .i64 K] 3)).alloc (.cells #[.string ⟨#[]⟩] 9)).alloc (.cells #[.bool false] 4)).alloc (.cells #[.slice sa len cap] 54)).heap.size = w.heap.size + 5 := by simp
  obtain ⟨W0, hW0⟩ : ∃ W0, (((((w.alloc (.cells #[.pointer cp] 91)).alloc (.cells #[.int .i64 K] 3)).alloc (.cells #[.string ⟨#[]⟩] 9)).alloc (.cells #[.bool false] 4)).alloc (.cells #[.slice sa len cap] 54)) = W0 := ⟨_, rfl⟩
  rw [hW0] at bC bK bS bB bL hB0 hsz ⊢
  clear hW0
  refine wpIn_rangeFunc_ownH hro h1 (gf := 241) (lb := #[.pointer (some ⟨w.heap.size + 1 + 1 + 1 + 1, 0, none⟩)]) rfl trivial (enters_of Tryz.func241 (by kernel_rfl) rfl)
    (backward_stops Fence.wide (n - 1) trivial hro (by omega) (w.heap.size + 1 + 1 + 1 + 1) W0.heap.size (.slice sa len cap) len tk hreach W0 (by omega) (Nat.le_refl _) bL.cell
      ((hI.below hB0).imp id fun ⟨b, off, cap, e, hb, hc⟩ => ⟨b, off, cap, e, by omega, hc⟩) (by omega)) belowK_t (belowK_b (Nat.le_refl _)) (Below.refl _ _) (fun _ => rfl)
    (fun pre W => (∀ x ∈ pre, (tk x.1).1 ≠ K) ∧ Below W0.heap.size W0 W)
    (fun c pre W => (c = .ret ∧ ∃ ini x, pre = ini ++ [x] ∧ (∀ y ∈ ini, (tk y.1).1 ≠ K) ∧ (tk x.1).1 = K ∧ W.cell? ⟨w.heap.size + 1 + 1, 0, none⟩ = some (.string (str x.1)) ∧ W.cell? ⟨w.heap.size + 1 + 1 + 1, 0, none⟩ = some (.bool true)) ∧ Below w.heap.size w W)
    (OwnFrom.and (ownFrom_pure _ _) (ownFrom_below (Nat.le_refl _) (Nat.le_refl _)))
    (fun c => OwnFrom.and (Own.from (fun s A B row hs hg hr => by obtain ⟨hc, ini, x, e1, e2, e3, e4, e5⟩ := hs; exact ⟨hc, ini, x, e1, e2, e3, cell_kept e4 hg hr, cell_kept e5 hg hr⟩) _) (ownFrom_below (Nat.le_refl _) (by omega)))
    ⟨by simp, Below.refl _ _⟩
    (fun x a' W => ∃ Bx, W0.heap.size ≤ Bx ∧ W.cell? ⟨Bx, 0, none⟩ = some (.int .i64 (tk x.1).1) ∧ W.cell? ⟨Bx, 1, none⟩ = some (.int .i64 (tk x.1).2.1) ∧ W.cell? ⟨Bx, 2, none⟩ = some (.int .i64 (tk x.1).2.2) ∧
      a' = { tmps := #[.pointer cp, .slice sa len cap, .int .i64 K, .pointer (some ⟨w.heap.size, 0, none⟩), undef, .pointer (some ⟨w.heap.size + 1, 0, none⟩), .pointer (some ⟨w.heap.size + 1 + 1, 0, none⟩), .pointer (some ⟨w.heap.size + 1 + 1 + 1, 0, none⟩), undef, .pointer (some ⟨Bx, 0, none⟩), .slice sa len cap, .func (.func 241) #[] #[.pointer (some ⟨w.heap.size + 1 + 1 + 1 + 1, 0, none⟩)], .int .i64 (x.1 : Int), tokV (tk x.1), undef, undef, undef, undef, undef, undef, undef], defers := [] })
    (fun x a' s A B row hs hg hr => by obtain ⟨Bx, e1, e2, e3, e4, e5⟩ := hs; exact ⟨Bx, e1, cell_kept e2 hg (fun r e => (hr r e).2), cell_kept e3 hg (fun r e => (hr r e).2), cell_kept e4 hg (fun r e => (hr r e).2), e5⟩)
    ?assign ?body ?done ?stop
  case assign =>
    rintro l pre x W K' ⟨hp, hB⟩ hK
    simp only [tokV] at *
    gi_wp2
    exact hK _ _ ((KeepsOthers.alloc _ _).from _) ((Below.refl _ W).alloc hB.size _) ⟨hp, hB.alloc hB.size _⟩ ⟨W.heap.size, hB.size, by simp, by simp, by simp, rfl⟩
  case body =>
    rintro l pre x a' W hl ⟨r, hr⟩ ⟨hp, hB⟩ ⟨Bx, hBx, d0, d1, d2, rfl⟩ hlt
    have hcC := (hB.cell (p := ⟨w.heap.size, 0, none⟩) (by simp; omega)).trans bC.cell
    have hcK := (hB.cell (p := ⟨w.heap.size + 1, 0, none⟩) (by simp; omega)).trans bK.cell
    have hcS := (hB.cell (p := ⟨w.heap.size + 1 + 1, 0, none⟩) (by simp; omega)).trans bS.cell
    have hcB := (hB.cell (p := ⟨w.heap.size + 1 + 1 + 1, 0, none⟩) (by simp; omega)).trans bB.cell
    have hfS := (hB.frozen (p := ⟨w.heap.size + 1 + 1, 0, none⟩) (by simp; omega)).trans bS.frozen
    have hfB := (hB.frozen (p := ⟨w.heap.size + 1 + 1 + 1, 0, none⟩) (by simp; omega)).trans bB.frozen
    have hwW : Below w.heap.size w W := hB0.trans (hB.mono (by omega))
    have hlS : w.heap.size + 1 + 1 < W.heap.size := by have := hB.size; omega
    have hlB : w.heap.size + 1 + 1 + 1 < W.heap.size := by have := hB.size; omega
    have hd : 1 ≤ n - 1 - 1 := by omega
    by_cases hx : (tk x.1).1 = K
    · have hTx := hT x.1 x.2 hx W hwW
      simp only [tokV, hx] at hTx
      simp only [tokV]
      gi_wp2_with (refine ⟨trivial, ?_⟩; gi_at_call 171; refine (CallsIn.inRound l (callsIn_wide.2 hTx)).mono ?_; rintro e W' ⟨rfl, hb'⟩; have hs1 := (hb'.cell (p := ⟨w.heap.size + 1 + 1, 0, none⟩) hlS).trans hcS; have hs2 := (hb'.cell (p := ⟨w.heap.size + 1 + 1 + 1, 0, none⟩) hlB).trans hcB; have hs3 := (hb'.frozen (p := ⟨w.heap.size + 1 + 1, 0, none⟩) hlS).trans hfS; have hs4 := (hb'.frozen (p := ⟨w.heap.size + 1 + 1 + 1, 0, none⟩) hlB).trans hfB)
      have hk' : KeepsFrom W0.heap.size W W' := ⟨hb'.size, fun k o hB hk _ => (hb'.block k (Array.getElem?_eq_some_iff.1 hk).1).trans hk⟩
      refine ⟨hk'.trans (((KeepsOthers.setCell _ _ _).trans (KeepsOthers.setCell _ _ _)).from _), ⟨rfl, pre, x, rfl, hp, hx, ?_, World.cell?_setCell_same' _ _ _ (by rw [far_cell _ _ _ _ (by omega), hs2]; rfl)⟩, ?_⟩
      · rw [far_cell _ _ _ _ (by omega)]
        exact World.cell?_setCell_same' _ _ _ (by rw [hs1]; rfl)
      · exact ((hwW.trans (hb'.mono (by have := hwW.size; omega))).setCell (p := ⟨w.heap.size + 1 + 1, 0, none⟩) (by simp; omega) _).setCell (p := ⟨w.heap.size + 1 + 1 + 1, 0, none⟩) (by simp; omega) _
    · simp only [tokV]
      gi_wp2
      exact ⟨KeepsFrom.refl _ _, Below.refl _ _, fun y hy => (List.mem_append.1 hy).elim (hp y) (fun e => by simp at e; subst e; exact hx), hB⟩
  case done =>
    rintro D ys W hD hys ⟨hne, hB⟩ hK
    have hcS := (hB.cell (p := ⟨w.heap.size + 1 + 1, 0, none⟩) (by simp; omega)).trans bS.cell
    have hcB := (hB.cell (p := ⟨w.heap.size + 1 + 1 + 1, 0, none⟩) (by simp; omega)).trans bB.cell
    have hfS := (hB.frozen (p := ⟨w.heap.size + 1 + 1, 0, none⟩) (by simp; omega)).trans bS.frozen
    have hfB := (hB.frozen (p := ⟨w.heap.size + 1 + 1 + 1, 0, none⟩) (by simp; omega)).trans bB.frozen
    have hwW : Below w.heap.size w W := hB0.trans (hB.mono (by omega))
    gi_wp2
    have hK' := ((KeepsOthers.setCell W ⟨w.heap.size + 1 + 1, 0, none⟩ (.string ⟨#[]⟩)).trans (KeepsOthers.setCell _ ⟨w.heap.size + 1 + 1 + 1, 0, none⟩ (.bool false))).same D _ hK rfl
    refine ⟨by simp, .inl ⟨_, _, rfl, run_takeDeferred hK', ?_⟩⟩
    have q1 : ((W.setCell ⟨w.heap.size + 1 + 1, 0, none⟩ (.string ⟨#[]⟩)).setCell ⟨w.heap.size + 1 + 1 + 1, 0, none⟩ (.bool false)).cell? ⟨w.heap.size + 1 + 1, 0, none⟩ = some (.string ⟨#[]⟩) := by
      rw [far_cell _ _ _ _ (by omega)]
      exact World.cell?_setCell_same' _ _ _ (by rw [hcS]; rfl)
    have q2 : ((W.setCell ⟨w.heap.size + 1 + 1, 0, none⟩ (.string ⟨#[]⟩)).setCell ⟨w.heap.size + 1 + 1 + 1, 0, none⟩ (.bool false)).cell? ⟨w.heap.size + 1 + 1 + 1, 0, none⟩ = some (.bool false) :=
      World.cell?_setCell_same' _ _ _ (by rw [far_cell _ _ _ _ (by omega), hcB]; rfl)
    have hc5 := cell_kept q1 (grownBy_putObj' _ D (.deferred none)) (fun r e => by cases e; exact ⟨_, hK', rfl⟩)
    have hc6 := cell_kept q2 (grownBy_putObj' _ D (.deferred none)) (fun r e => by cases e; exact ⟨_, hK', rfl⟩)
    refine ⟨.tuple #[.string ⟨#[]⟩, .bool false], ?_, .inl ⟨rfl, fun j hj => ?_⟩, (((hwW.setCell (p := ⟨w.heap.size + 1 + 1, 0, none⟩) (by simp; omega) _).setCell (p := ⟨w.heap.size + 1 + 1 + 1, 0, none⟩) (by simp; omega) _)).trans (belowK_b (w := w) (Nat.le_refl _) _ D _ _ (by omega) hK' rfl rfl)⟩
    · simp [results, Tryz.f165, go_sem, hc5, hc6]
    · have hm : j ∈ ys.map (·.1) := by
        rw [hys]
        simp only [bUpto, List.mem_map, List.mem_range]
        exact ⟨len - 1 - j, by omega, by omega⟩
      obtain ⟨y, hy, rfl⟩ := List.mem_map.1 hm
      exact hne y hy
  case stop =>
    rintro D c pre W hD ⟨k, hk, hpre⟩ ⟨⟨rfl, ini, x, e1, e2, e3, hcS, hcB⟩, hB⟩ hK
    gi_wp2
    refine ⟨by simp, .inl ⟨_, _, rfl, run_takeDeferred hK, ?_⟩⟩
    have hc5 := cell_kept hcS (grownBy_putObj' _ D (.deferred none)) (fun r e => by cases e; exact ⟨_, hK, rfl⟩)
    have hc6 := cell_kept hcB (grownBy_putObj' _ D (.deferred none)) (fun r e => by cases e; exact ⟨_, hK, rfl⟩)
    subst e1
    obtain ⟨k', rfl⟩ : ∃ k', k = k' + 1 := by
      cases k with
      | zero => simp [bUpto] at hpre
      | succ k' => exact ⟨k', rfl⟩
    rw [bUpto_succ, List.map_append] at hpre
    obtain ⟨p1, p2⟩ := List.append_inj' hpre rfl
    have hxk : x.1 = len - 1 - k' := by simpa using p2
    refine ⟨.tuple #[.string (str x.1), .bool true], ?_, .inr ⟨x.1, x.2, e3, fun i hi hil => ?_, rfl⟩, hB.trans (belowK_b (w := w) (Nat.le_refl _) W D _ _ (by omega) hK rfl rfl)⟩
    · simp [results, Tryz.f165, go_sem, hc5, hc6]
    · have hm : i ∈ ini.map (·.1) := by
        rw [p1]
        simp only [bUpto, List.mem_map, List.mem_range]
        exact ⟨len - 1 - i, by omega, by omega⟩
      obtain ⟨y, hy, rfl⟩ := List.mem_map.1 hm
      exact e2 y hy

/-- 'last', of a composer. -/
theorem lastSaid : Go.Eng.LastSaid Tryz.prog 165 := by
  intro cb co bb bo nb c sv K len tk str w hlen hcb hbb hcell hsv hstr
  have hT : ∀ j, j < len → (tk j).1 = K → ∀ W, Below w.heap.size w W → Calls Tryz.prog 171 #[.pointer (some ⟨cb, co, none⟩), tokV (tk j)] W fun e W' => e = .returned (.string ⟨(str j).toArray⟩) ∧ Below W.heap.size W W' := by
    intro j hj hK W hW
    obtain ⟨F, T, h1, h2, h3, h4, h5⟩ := hstr j hj hK
    have := text171 cb co K F T bb bo nb c W h2 h3 ⟨(str j).toArray⟩ (Nat.lt_of_lt_of_le hcb hW.size) ((hW.cell (p := ⟨cb, co, none⟩) hcb).trans hcell) (fun W2 hW2 => by
      have hB : Below w.heap.size w W2 := hW.trans (hW2.mono hW.size)
      have := run_convert_bytes_back (P := Tryz.prog) W2 25 9 5 ⟨bb, bo + F, none⟩ (c - F) (str j) (by kernel_rfl) (by kernel_rfl) (by kernel_rfl) (fun i hi => by
        have := h5 i hi
        rw [← this]
        rw [Go.Eng.add_none]
        exact hB.cell (p := ⟨bb, bo + F + i, none⟩) hbb)
      rw [h4] at this
      exact this)
    unfold tokV
    rw [hK, h1]
    exact this
  obtain ⟨sa, cap, rfl⟩ : ∃ sa cap, sv = .slice sa len cap := by
    rcases hsv with ⟨rfl, rfl⟩ | ⟨b, off, cap, rfl, _⟩
    · exact ⟨none, 0, rfl⟩
    · exact ⟨_, cap, rfl⟩
  exact callsIn_wide.1 (last_in 3 (by omega) (some ⟨cb, co, none⟩) sa cap K len tk (fun j => ⟨(str j).toArray⟩) hlen w hsv hT)
end Go.Proofs.YtfckbfheadoohaaGreatDoor
