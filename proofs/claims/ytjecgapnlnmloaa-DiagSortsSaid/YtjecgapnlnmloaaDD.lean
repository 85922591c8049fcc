/- A part of the proof: an interpreter of the program, shown right once, and the laws that it computes. -/
import Derived.Test.YtjecgapnlnmloaaDC
import Derived.MapKept
namespace Go.Proofs.Ytjecgapnlnmloaa
open Go.RowKit Go.Shelf Go.Lib Go.Sort Go.DiagLaw
set_option linter.unusedVariables false
namespace D
theorem chk3 (b : Bool) (n : Nat) (a : Int) (W : World) : (Instr.checkKey b (n + 1) 3 (.int .i64 a)).run Try.prog W = .ok () W := by
  unfold Instr.checkKey
  simp [run_underlying Try.underlying3]
theorem chk34 (b : Bool) (x : Dg) (W : World) : (Instr.checkKey b 10000 34 (dv x)).run Try.prog W = .ok () W := by
  have h := ff
  unfold Instr.checkKey
  simp only [Sem.run_bind, run_underlying fu, Result.andThen_ok]
  rw [← Array.forIn_toList]
  generalize (Try.prog.fieldsOf 34).toList = l at h
  rcases l with _ | ⟨f0, _ | ⟨f1, _ | ⟨f2, _ | ⟨f3, l⟩⟩⟩⟩
  · cases h
  · simp at h
  · simp at h
  · simp only [List.map_cons, List.map_nil, List.cons.injEq, Prod.mk.injEq, decide_eq_true_eq, and_true] at h
    obtain ⟨⟨t0, o0, n0⟩, ⟨t1, o1, n1⟩, ⟨t2, o2, n2⟩⟩ := h
    have p0 : ∀ a b c W, (part 3 #[.int .i64 a, .int .i64 b, .int .i64 c] 0).run Try.prog W = .ok (.int .i64 a) W := fun a b c W => part3 _ 0 _ W rfl
    have p1 : ∀ a b c W, (part 3 #[.int .i64 a, .int .i64 b, .int .i64 c] 1).run Try.prog W = .ok (.int .i64 b) W := fun a b c W => part3 _ 1 _ W rfl
    have p2 : ∀ a b c W, (part 3 #[.int .i64 a, .int .i64 b, .int .i64 c] 2).run Try.prog W = .ok (.int .i64 c) W := fun a b c W => part3 _ 2 _ W rfl
    have q : ∀ a W, (Instr.checkKey b 9999 3 (.int .i64 a)).run Try.prog W = .ok () W := fun a W => chk3 b 9998 a W
    simp [n0, n1, n2, t0, t1, t2, o0, o1, o2, p0, p1, p2, q]
  · simp at h
theorem lookup42 {W : World} {mb clock : Nat} {es : Array MapEntry} {O : List Dg} (h : W.heap[mb]? = some (.map es clock)) (hk : es.toList.map (·.key) = O.map dv) (x : Dg) :
    ∃ v, (Instr.lookup 42 (.map (some mb)) (dv x) true).run Try.prog W = .ok (.tuple #[v, .bool (decide (x ∈ O))]) W := by
  unfold Instr.lookup
  simp only [Sem.run_bind, run_underlying Try.underlying42, Result.andThen_ok, MapKept.run_getObj_map h, Sem.run_pure, chk34]
  by_cases hx : x ∈ O
  · obtain ⟨r, hr⟩ := key_hit x W es.toList O hk hx
    rw [hr, decide_eq_true hx]
    exact ⟨r.2, by simp⟩
  · rw [key_miss x W es.toList O hk hx, decide_eq_false hx]
    have hz : ∀ w, (zeroValue 3).run Try.prog w = .ok (.int .i64 0) w := fun w => by kernel_rfl
    exact ⟨.int .i64 0, by simp [hz]⟩
theorem update42 {W : World} {mb clock : Nat} {es : Array MapEntry} {O : List Dg} (h : W.heap[mb]? = some (.map es clock)) (hk : es.toList.map (·.key) = O.map dv) (x : Dg) (hx : x ∉ O) (val : Value) :
    ∃ W' es', (Instr.mapUpdate 42 (.map (some mb)) (dv x) val).run Try.prog W = .ok () W' ∧ W'.heap[mb]? = some (.map es' (clock + 1)) ∧ es'.toList.map (·.key) = (O ++ [x]).map dv ∧ (∀ b, b ≠ mb → W'.heap[b]? = W.heap[b]?) ∧ W'.heap.size = W.heap.size ∧ W'.os = W.os ∧ W'.tape = W.tape ∧ W'.output = W.output := by
  have hlt : mb < W.heap.size := (Array.getElem?_eq_some_iff.1 h).1
  refine ⟨{ W with heap := W.heap.setIfInBounds mb (.map (es.push { key := dv x, val := val, born := clock }) (clock + 1)) }, es.push { key := dv x, val := val, born := clock }, ?_, ?_, ?_, ?_, by simp, rfl, rfl, rfl⟩
  · unfold Instr.mapUpdate
    simp only [Sem.run_bind, run_underlying Try.underlying42, Result.andThen_ok, MapKept.run_getObj_map h, chk34, key_miss x W es.toList O hk hx]
    exact MapKept.run_setObj_map _ h
  · simp [hlt]
  · simp [hk]
  · intro b hb
    simp [Ne.symm hb]
end D
end Go.Proofs.Ytjecgapnlnmloaa
