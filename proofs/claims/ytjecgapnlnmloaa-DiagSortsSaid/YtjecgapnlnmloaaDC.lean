/- A part of the proof: an interpreter of the program, shown right once, and the laws that it computes. -/
import Derived.Test.YtjecgapnlnmloaaDB
namespace Go.Proofs.Ytjecgapnlnmloaa
open Go.RowKit Go.Shelf Go.Lib Go.Sort Go.DiagLaw
set_option linter.unusedVariables false
namespace D
theorem ff : (Try.prog.fieldsOf 34).toList.map (fun f => (f.type, f.offset, decide (f.name ≠ "_"))) = [(3, 0, true), (3, 1, true), (3, 2, true)] := by kernel_rfl
theorem fu : Try.prog.underlying 34 = some (.struct (Try.prog.fieldsOf 34)) := by kernel_rfl
theorem fs : Try.prog.stoodInHeld 34 = false := by kernel_rfl
theorem part3 (xs : Array Value) (i : Nat) (v : Value) (W : World) (h : xs[i]? = some v) : (part 3 xs i).run Try.prog W = .ok v W := by
  have h1 : ∀ w, (Go.isAgg 3).run Try.prog w = .ok false w := fun w => by kernel_rfl
  unfold part
  simp [go_sem, h1, h]
theorem eq34 (a0 a1 a2 b0 b1 b2 : Int) (W : World) : (Op.equal 34 (dg a0 a1 a2) (dg b0 b1 b2)).run Try.prog W = .ok (a0 == b0 && (a1 == b1 && a2 == b2)) W := by
  unfold Op.equal Op.maxDepth
  rw [run_equalIn_struct W 9999 34 _ _ fu fs]
  have h := ff
  generalize (Try.prog.fieldsOf 34).toList = l at h
  rcases l with _ | ⟨f0, _ | ⟨f1, _ | ⟨f2, _ | ⟨f3, l⟩⟩⟩⟩
  · cases h
  · simp at h
  · simp at h
  · simp only [List.map_cons, List.map_nil, List.cons.injEq, Prod.mk.injEq, decide_eq_true_eq, and_true] at h
    obtain ⟨⟨t0, o0, n0⟩, ⟨t1, o1, n1⟩, ⟨t2, o2, n2⟩⟩ := h
    have p0 : ∀ a b c W, (part 3 #[.int .i64 a, .int .i64 b, .int .i64 c] 0).run Try.prog W = .ok (.int .i64 a) W := fun a b c W => part3 _ 0 _ W rfl
    have p1 : ∀ a b c W, (part 3 #[.int .i64 a, .int .i64 b, .int .i64 c] 1).run Try.prog W = .ok (.int .i64 b) W := fun a b c W => part3 _ 1 _ W rfl
    have p2 : ∀ a b c W, (part 3 #[.int .i64 a, .int .i64 b, .int .i64 c] 2).run Try.prog W = .ok (.int .i64 c) W := fun a b c W => part3 _ 2 _ W rfl
    have q : ∀ a b W, (Op.equalIn 9999 3 (.int .i64 a) (.int .i64 b)).run Try.prog W = .ok (a == b) W := fun a b W => run_equalIn_int W 9998 3 .i64 .i64 a b Try.underlying3
    cases e0 : a0 == b0 <;> cases e1 : a1 == b1 <;> cases e2 : a2 == b2 <;> simp [Op.eqFields, n0, n1, n2, t0, t1, t2, o0, o1, o2, p0, p1, p2, q, e0, e1, e2]
  · simp at h
/-- A diagnostic, as a value. -/
abbrev dv (x : Dg) : Value := dg x.1 x.2.1 x.2.2
theorem eqD (x y : Dg) (W : World) : (Op.equal 34 (dv x) (dv y)).run Try.prog W = .ok (decide (x = y)) W := by
  rw [eq34]
  have : (x.1 == y.1 && (x.2.1 == y.2.1 && x.2.2 == y.2.2)) = decide (x = y) := by
    rw [Bool.eq_iff_iff]
    simp only [Bool.and_eq_true, beq_iff_eq, decide_eq_true_eq]
    constructor
    · rintro ⟨h0, h1, h2⟩
      exact Prod.ext h0 (Prod.ext h1 h2)
    · rintro rfl
      exact ⟨rfl, rfl, rfl⟩
  rw [this]
theorem find_hit (x : Dg) (W : World) : ∀ (es : List MapEntry) (O : List Dg), es.map (·.key) = O.map dv → x ∈ O → ∀ i, ∃ r, (Instr.findAsking 34 (dv x) es i).run Try.prog W = .ok (some r) W
  | [], O, h, hx, i => by
    have : O = [] := List.map_eq_nil_iff.1 h.symm
    subst this; simp at hx
  | e :: es, [], h, hx, i => by simp at hx
  | e :: es, y :: O, h, hx, i => by
    simp only [List.map_cons, List.cons.injEq] at h
    unfold Instr.findAsking
    simp only [Sem.run_bind, h.1, eqD, Result.andThen_ok]
    by_cases hxy : x = y
    · rw [decide_eq_true hxy]
      exact ⟨(i, e.val), by simp⟩
    · rw [decide_eq_false hxy]
      obtain ⟨r, hr⟩ := find_hit x W es O h.2 (by rcases List.mem_cons.1 hx with e | h; exact absurd e hxy; exact h) (i + 1)
      exact ⟨r, by simpa using hr⟩
theorem find_miss (x : Dg) (W : World) : ∀ (es : List MapEntry) (O : List Dg), es.map (·.key) = O.map dv → x ∉ O → ∀ i, (Instr.findAsking 34 (dv x) es i).run Try.prog W = .ok none W
  | [], O, h, hx, i => by simp [Instr.findAsking]
  | e :: es, [], h, hx, i => by simp at h
  | e :: es, y :: O, h, hx, i => by
    simp only [List.map_cons, List.cons.injEq] at h
    rw [List.mem_cons, not_or] at hx
    unfold Instr.findAsking
    simp only [Sem.run_bind, h.1, eqD, Result.andThen_ok, decide_eq_false hx.1]
    simpa using find_miss x W es O h.2 hx.2 (i + 1)
theorem now_none (x : Dg) : ∀ (es : List MapEntry) (O : List Dg), es.map (·.key) = O.map dv → es ≠ [] → Instr.findNow (.struct (Try.prog.fieldsOf 34)) (dv x) es 0 = none
  | [], _, _, h => absurd rfl h
  | e :: es, [], h, _ => by simp at h
  | e :: es, y :: O, h, _ => by
    simp only [List.map_cons, List.cons.injEq] at h
    simp [Instr.findNow, Instr.sameNow]
theorem key_hit (x : Dg) (W : World) (es : List MapEntry) (O : List Dg) (h : es.map (·.key) = O.map dv) (hx : x ∈ O) : ∃ r, (Instr.findKey 34 (dv x) es).run Try.prog W = .ok (some r) W := by
  have hne : es ≠ [] := by
    intro e; subst e
    have : O = [] := List.map_eq_nil_iff.1 h.symm
    subst this; simp at hx
  obtain ⟨r, hr⟩ := find_hit x W es O h hx 0
  refine ⟨r, ?_⟩
  unfold Instr.findKey
  simp only [Sem.run_bind, run_underlying fu, Result.andThen_ok, now_none x es O h hne]
  exact hr
theorem key_miss (x : Dg) (W : World) (es : List MapEntry) (O : List Dg) (h : es.map (·.key) = O.map dv) (hx : x ∉ O) : (Instr.findKey 34 (dv x) es).run Try.prog W = .ok none W := by
  unfold Instr.findKey
  simp only [Sem.run_bind, run_underlying fu, Result.andThen_ok]
  by_cases hne : es = []
  · subst hne; simp [Instr.findNow]
  · rw [now_none x es O h hne]
    exact find_miss x W es O h hx 0
end D
end Go.Proofs.Ytjecgapnlnmloaa
