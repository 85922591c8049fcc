/- A part of the proof: what the functions of the program compute, shown once each; the last text holds the statement. No condition beyond those of the statement. -/
import Derived.Test.YtcbmeklhmajglaaDoorCfA
import Derived.Laws.StructEq
import Derived.Test.YtcbmeklhmajglaaDoorCfG
set_option linter.unusedSimpArgs false
set_option linter.unusedVariables false
section
namespace Go.Proofs.YtcbmeklhmajglaaDoor
open Go.RowKit Go.CfgLaw
set_option linter.unusedVariables false
set_option linter.unusedSimpArgs false
theorem ff28 : (Tryd.prog.fieldsOf 28).toList.map (fun f => (f.type, f.offset, decide (f.name ≠ "_"))) = [(26, 0, true), (3, 10, true), (3, 11, true), (3, 12, true), (3, 13, true)] := by kernel_rfl
theorem fu28 : Tryd.prog.underlying 28 = some (.struct (Tryd.prog.fieldsOf 28)) := by kernel_rfl
theorem fs28 : Tryd.prog.stoodInHeld 28 = false := by kernel_rfl
theorem part1 (t : TypeId) (h1 : ∀ w, (Go.isAgg t).run Tryd.prog w = .ok false w) (xs : Array Value) (i : Nat) (v : Value) (W : World) (h : xs[i]? = some v) : (part t xs i).run Tryd.prog W = .ok v W := by
  unfold part
  simp [go_sem, h1, h]
theorem agg3 : ∀ w, (Go.isAgg 3).run Tryd.prog w = .ok false w := fun w => by kernel_rfl
theorem agg4 : ∀ w, (Go.isAgg 4).run Tryd.prog w = .ok false w := fun w => by kernel_rfl
theorem agg26 : ∀ w, (Go.isAgg 26).run Tryd.prog w = .ok true w := fun w => by kernel_rfl
theorem size4 : ∀ w, (Go.sizeOf 4).run Tryd.prog w = .ok 1 w := fun w => by kernel_rfl
theorem size26 : ∀ w, (Go.sizeOf 26).run Tryd.prog w = .ok 10 w := fun w => by kernel_rfl
theorem part26 (o0 o1 o2 o3 o4 o5 o6 o7 o8 o9 : Value) (a b c d : Value) (W : World) : (part 26 #[o0, o1, o2, o3, o4, o5, o6, o7, o8, o9, a, b, c, d] 0).run Tryd.prog W = .ok (.agg #[o0, o1, o2, o3, o4, o5, o6, o7, o8, o9]) W := by
  unfold part
  simp [go_sem, agg26, size26]
theorem eq26 (o0 o1 o2 o3 o4 o5 o6 o7 o8 o9 : Bool) (W : World) : (Op.equalIn 9999 26 (.agg #[.bool o0, .bool o1, .bool o2, .bool o3, .bool o4, .bool o5, .bool o6, .bool o7, .bool o8, .bool o9]) (.agg #[.bool o0, .bool o1, .bool o2, .bool o3, .bool o4, .bool o5, .bool o6, .bool o7, .bool o8, .bool o9])).run Tryd.prog W = .ok true W := by
  have hp : ∀ (i : Nat) (v : Value), (#[.bool o0, .bool o1, .bool o2, .bool o3, .bool o4, .bool o5, .bool o6, .bool o7, .bool o8, .bool o9] : Array Value)[i]? = some v → (part 4 #[.bool o0, .bool o1, .bool o2, .bool o3, .bool o4, .bool o5, .bool o6, .bool o7, .bool o8, .bool o9] i).run Tryd.prog W = .ok v W := fun i v h => part1 4 agg4 _ i v W h
  have q : ∀ a, (Op.equalIn 9998 4 (.bool a) (.bool a)).run Tryd.prog W = .ok true W := fun a => by
    rw [run_equalIn_bool' W 9997 4 a a Tryd.underlying4]; simp
  have h0 := hp 0 _ rfl
  have h1 := hp 1 _ rfl
  have h2 := hp 2 _ rfl
  have h3 := hp 3 _ rfl
  have h4 := hp 4 _ rfl
  have h5 := hp 5 _ rfl
  have h6 := hp 6 _ rfl
  have h7 := hp 7 _ rfl
  have h8 := hp 8 _ rfl
  have h9 := hp 9 _ rfl
  unfold Op.equalIn
  simp only [Sem.run_bind, run_underlying Tryd.underlying26, Result.andThen_ok, size4]
  simp [Std.Legacy.Range.forIn_eq_forIn_range', List.range', h0, h1, h2, h3, h4, h5, h6, h7, h8, h9, q]
theorem eq28 (f : Cfg) (W : World) : (Op.equalIn 10000 28 (cv f) (cv f)).run Tryd.prog W = .ok true W := by
  obtain ⟨on, a, b, c, d⟩ := f
  show (Op.equalIn (9999 + 1) 28 (.agg _) (.agg _)).run Tryd.prog W = _
  rw [run_equalIn_struct W 9999 28 _ _ fu28 fs28]
  have h := ff28
  generalize (Tryd.prog.fieldsOf 28).toList = l at h
  rcases l with _ | ⟨f0, _ | ⟨f1, _ | ⟨f2, _ | ⟨f3, _ | ⟨f4, _ | ⟨f5, l⟩⟩⟩⟩⟩⟩
  · cases h
  · simp at h
  · simp at h
  · simp at h
  · simp at h
  · simp only [List.map_cons, List.map_nil, List.cons.injEq, Prod.mk.injEq, decide_eq_true_eq, and_true] at h
    obtain ⟨⟨t0, o0, n0⟩, ⟨t1, o1, n1⟩, ⟨t2, o2, n2⟩, ⟨t3, o3, n3⟩, t4, o4, n4⟩ := h
    have p0 := part26 (.bool (on 0)) (.bool (on 1)) (.bool (on 2)) (.bool (on 3)) (.bool (on 4)) (.bool (on 5)) (.bool (on 6)) (.bool (on 7)) (.bool (on 8)) (.bool (on 9)) (.int .i64 a) (.int .i64 b) (.int .i64 c) (.int .i64 d) W
    have hp : ∀ (i : Nat) (v : Value), (cells ⟨on, a, b, c, d⟩)[i]? = some v → (part 3 (cells ⟨on, a, b, c, d⟩) i).run Tryd.prog W = .ok v W := fun i v h => part1 3 agg3 _ i v W h
    have p1 := hp 10 _ rfl
    have p2 := hp 11 _ rfl
    have p3 := hp 12 _ rfl
    have p4 := hp 13 _ rfl
    have q : ∀ a, (Op.equalIn 9999 3 (.int .i64 a) (.int .i64 a)).run Tryd.prog W = .ok true W := fun a => by
      rw [run_equalIn_int W 9998 3 .i64 .i64 a a Tryd.underlying3]; simp
    have q0 := eq26 (on 0) (on 1) (on 2) (on 3) (on 4) (on 5) (on 6) (on 7) (on 8) (on 9) W
    simp only [cells] at p1 p2 p3 p4
    simp [Op.eqFields, n0, n1, n2, n3, n4, t0, t1, t2, t3, t4, o0, o1, o2, o3, o4, p0, p1, p2, p3, p4, q, q0]
  · simp at h
end Go.Proofs.YtcbmeklhmajglaaDoor
end
section
namespace Go.Proofs.YtcbmeklhmajglaaDoor
open Go.RowKit Go.CfgLaw Go.Eng Go.Proofs.YtcbmeklhmajglaaDoorW.PrintWords Go.Proofs.YtcbmeklhmajglaaDoorW.PrintLast Go.Proofs.YtcbmeklhmajglaaDoorW.PrintMore
set_option linter.unusedVariables false
theorem within8_neg (a n : Int) (w : World) (hn : 0 < n) (hn2 : n ≤ 1000) (ha : a.tmod n < 0) :
    Calls Tryd.prog 8 #[.int .i64 a, .int .i64 n] w fun e w' => e = .returned (.int .i64 (a.tmod n + n)) ∧ w' = w := by
  have h0 : n ≠ 0 := by omega
  have hw : IntKind.i64.wrap (a.tmod n + n) = a.tmod n + n := by
    have h1 : -n < a.tmod n := Int.lt_tmod_of_pos a hn
    unfold IntKind.wrap
    simp [IntKind.signed, IntKind.bits]
    omega
  go_enter Tryd.func8, Tryd.ntmps8
  go_wp2
  go_ret
  exact ⟨by first | rfl | (show Ending.returned (Value.int IntKind.i64 _) = _; rw [hw]), rfl⟩
theorem within8_pos (a n : Int) (w : World) (hn : 0 < n) (ha : ¬ a.tmod n < 0) :
    Calls Tryd.prog 8 #[.int .i64 a, .int .i64 n] w fun e w' => e = .returned (.int .i64 (a.tmod n)) ∧ w' = w := by
  have h0 : n ≠ 0 := by omega
  go_enter Tryd.func8, Tryd.ntmps8
  go_wp2
  go_ret
  exact ⟨rfl, rfl⟩
/-- What 'within' hands back. -/
theorem within8 (a : Int) (n : Nat) (hn : 0 < n) (hn2 : n ≤ 1000) : ∃ k : Nat, k < n ∧ ∀ w, Calls Tryd.prog 8 #[.int .i64 a, .int .i64 n] w fun e w' => e = .returned (.int .i64 k) ∧ w' = w := by
  have h0 : (0 : Int) < n := by omega
  have h1 : -(n : Int) < a.tmod n := Int.lt_tmod_of_pos a h0
  have h2 : a.tmod n < n := Int.tmod_lt_of_pos a h0
  by_cases ha : a.tmod n < 0
  · refine ⟨(a.tmod n + n).toNat, by omega, fun w => ?_⟩
    rw [show (((a.tmod n + n).toNat : Nat) : Int) = a.tmod n + n by omega]
    exact within8_neg a n w h0 (by omega) ha
  · refine ⟨(a.tmod n).toNat, by omega, fun w => ?_⟩
    rw [show (((a.tmod n).toNat : Nat) : Int) = a.tmod n by omega]
    exact within8_pos a n w h0 ha
theorem known7k : isTrue ((run Tryd.prog noExt 10000).f 7 [] s₀ .ok) = true := by kernel_rfl
theorem known7 (w : World) : Calls Tryd.prog 7 #[] w fun e w' => e = .returned (.bool true) ∧ Below w.heap.size w w' :=
  law_of_run (γ := fun _ => .int .i64 0) (X := noExt) (m := 10000) (args := []) (args' := []) follows noExt_ok known7k .nil w
end Go.Proofs.YtcbmeklhmajglaaDoor
end
