/- A part of the proof: an interpreter of the program, shown right once, and the laws that it computes. -/
import Derived.WalkKit
import Derived.ProofKit
import Derived.Below
import Derived.MapKept
namespace Go.MapF
open Go.MapKept Go.RowKit
set_option linter.unusedVariables false
variable {P : Program} {W : World}
/-- The map in a block: its keys are of a type, it has n entries, at a key k it has F k. -/
def MapF (W : World) (d : TypeDesc) (r n : Nat) (F : Value → Option Value) : Prop :=
  ∃ (es : Array MapEntry) (clock : Nat), W.heap[r]? = some (.map es clock) ∧ es.size = n ∧ Stamped es clock ∧ (∀ x ∈ es.toList, IsKey d x.key) ∧
    ∀ k v, IsKey d k → (F k = some v ↔ ∃ x ∈ es.toList, x.key = k ∧ x.val = v)
theorem MapF.empty (w : World) (d : TypeDesc) : MapF (w.alloc (.map #[] 0)) d w.heap.size 0 (fun _ => none) :=
  ⟨#[], 0, (heap_alloc w _).1, rfl, stamped_empty 0, fun x hx => absurd hx (by simp), fun k v _ => by simp⟩
theorem MapF.lt {d : TypeDesc} {r n : Nat} {F : Value → Option Value} (h : MapF W d r n F) : r < W.heap.size := by
  obtain ⟨es, c, h1, _⟩ := h
  exact (Array.getElem?_eq_some_iff.1 h1).1
theorem MapF.congr {W2 : World} {d : TypeDesc} {r n : Nat} {F : Value → Option Value} (h : MapF W d r n F) (e : W2.heap[r]? = W.heap[r]?) : MapF W2 d r n F := by
  obtain ⟨es, c, h1, h2⟩ := h
  exact ⟨es, c, e.trans h1, h2⟩
theorem MapF.find {d : TypeDesc} {r n : Nat} {F : Value → Option Value} (h : MapF W d r n F) {k : Value} (hk : IsKey d k) :
    ∃ es c, W.heap[r]? = some (.map es c) ∧ ((Instr.findNow d k es.toList 0 = some none ∧ F k = none) ∨ ∃ j v, Instr.findNow d k es.toList 0 = some (some (j, v)) ∧ F k = some v) := by
  obtain ⟨es, c, h1, h2, h3, h4, h5⟩ := h
  refine ⟨es, c, h1, ?_⟩
  rcases findNow_spec hk es.toList 0 h4 with ⟨q1, q2⟩ | ⟨j, e, q1, q2, q3⟩
  · refine .inl ⟨q1, ?_⟩
    cases hF : F k with
    | none => rfl
    | some v =>
      obtain ⟨x, hx, e1, _⟩ := (h5 k v hk).1 hF
      exact absurd e1 (q2 x hx)
  · exact .inr ⟨0 + j, e.val, q1, (h5 k e.val hk).2 ⟨e, List.mem_of_getElem? q2, q3, rfl⟩⟩
theorem MapF.lookup {mty kt et : TypeId} {d : TypeDesc} {r n : Nat} {F : Value → Option Value} (h : MapF W d r n F) (hm : P.underlying mty = some (.map kt et)) (hd : P.underlying kt = some d) {k : Value} (hk : IsKey d k)
    {z : Value} (hz : ∀ w, (zeroValue et).run P w = .ok z w) :
    (Instr.lookup mty (.map (some r)) k true).run P W = .ok (.tuple #[(F k).getD z, .bool (F k).isSome]) W ∧
    (Instr.lookup mty (.map (some r)) k false).run P W = .ok ((F k).getD z) W := by
  obtain ⟨es, c, h1, h2⟩ := h.find hk
  constructor
  · unfold Instr.lookup
    rcases h2 with ⟨q1, q2⟩ | ⟨j, v, q1, q2⟩
    · simp [run_underlying hm, MapKept.run_getObj_map h1, MapKept.run_checkKey hd hk, MapKept.run_findKey hd q1, q2, hz]
    · simp [run_underlying hm, MapKept.run_getObj_map h1, MapKept.run_checkKey hd hk, MapKept.run_findKey hd q1, q2]
  · unfold Instr.lookup
    rcases h2 with ⟨q1, q2⟩ | ⟨j, v, q1, q2⟩
    · simp [run_underlying hm, MapKept.run_getObj_map h1, MapKept.run_checkKey hd hk, MapKept.run_findKey hd q1, q2, hz]
    · simp [run_underlying hm, MapKept.run_getObj_map h1, MapKept.run_checkKey hd hk, MapKept.run_findKey hd q1, q2]
theorem MapF.update {mty kt et : TypeId} {d : TypeDesc} {r n : Nat} {F : Value → Option Value} (h : MapF W d r n F) (hm : P.underlying mty = some (.map kt et)) (hd : P.underlying kt = some d) {k : Value} (hk : IsKey d k) (v : Value) :
    ∃ W2, (Instr.mapUpdate mty (.map (some r)) k v).run P W = .ok () W2 ∧ (∀ F', F' k = some v → (∀ k', k' ≠ k → F' k' = F k') → MapF W2 d r (if (F k).isSome then n else n + 1) F') ∧ (∀ b, b ≠ r → W2.heap[b]? = W.heap[b]?) ∧ Below r W W2 := by
  obtain ⟨es, c, h1, h2, h3, h4, h5⟩ := h
  have hlt : r < W.heap.size := (Array.getElem?_eq_some_iff.1 h1).1
  have hB : ∀ o, Below r W { W with heap := W.heap.setIfInBounds r o } := fun o => ⟨rfl, rfl, rfl, by simp, fun k hk => by
    have : r ≠ k := by omega
    simp [this]⟩
  rcases findNow_spec hk es.toList 0 h4 with ⟨q1, q2⟩ | ⟨j, e, q1, q2, q3⟩
  · have hF : F k = none := by
      cases hF : F k with
      | none => rfl
      | some v =>
        obtain ⟨x, hx, e1, _⟩ := (h5 k v hk).1 hF
        exact absurd e1 (q2 x hx)
    refine ⟨_, by
      simp [Instr.mapUpdate, run_underlying hm, MapKept.run_getObj_map h1, MapKept.run_checkKey hd hk, MapKept.run_findKey hd q1, MapKept.run_setObj_map _ h1]
      rfl, fun F' e1 e2 => ?_, (heap_set h1).2, hB _⟩
    refine ⟨_, _, (heap_set h1).1, by rw [hF]; simp [h2], stamped_push h3 q2, ?_, ?_⟩
    · intro x hx
      simp only [Array.toList_push, List.mem_append, List.mem_singleton] at hx
      rcases hx with hx | rfl
      · exact h4 x hx
      · exact hk
    · intro k' v' hk'
      simp only [Array.toList_push, List.mem_append, List.mem_singleton]
      by_cases he : k' = k
      · subst he
        rw [e1]
        constructor
        · intro h; cases h; exact ⟨_, .inr rfl, rfl, rfl⟩
        · rintro ⟨x, hx | rfl, r1, r2⟩
          · exact absurd r1 (q2 x hx)
          · rw [← r2]
      · rw [e2 k' he, h5 k' v' hk']
        constructor
        · rintro ⟨x, hx, r1, r2⟩; exact ⟨x, .inl hx, r1, r2⟩
        · rintro ⟨x, hx | rfl, r1, r2⟩
          · exact ⟨x, hx, r1, r2⟩
          · exact absurd r1.symm he
  · have hj : es[j]? = some e := by simpa using q2
    have hF : F k = some e.val := (h5 k e.val hk).2 ⟨e, List.mem_of_getElem? q2, q3, rfl⟩
    have hkey : ∀ e', es[j]? = some e' → ({ e' with key := k, val := v } : MapEntry).key = e'.key := fun e' he' => by rw [hj] at he'; cases he'; exact q3.symm
    refine ⟨_, by
      simp [Instr.mapUpdate, run_underlying hm, MapKept.run_getObj_map h1, MapKept.run_checkKey hd hk, MapKept.run_findKey hd q1, hj, q3, run_keyThatStays hk, MapKept.run_setObj_map _ h1]
      rfl, fun F' e1 e2 => ?_, (heap_set h1).2, hB _⟩
    refine ⟨_, _, (heap_set h1).1, by rw [hF]; simp [h2], stamped_modify h3 _ _ (fun _ _ => rfl) (fun e' _ he' => hkey e' he'), isKey_modify h4 _ _ hkey, ?_⟩
    intro k' v' hk'
    have hjl : j < es.size := (Array.getElem?_eq_some_iff.1 hj).1
    have hnd : ∀ (i : Nat) (x : MapEntry), es[i]? = some x → x.key = k → i = j := by
      intro i x hx hxk
      have := h3.2.2
      have hi : i < es.size := (Array.getElem?_eq_some_iff.1 hx).1
      have a1 : (es.toList.map (·.key))[i]? = some k := by simp [hx, hxk]
      have a2 : (es.toList.map (·.key))[j]? = some k := by simp [hj, q3]
      have b1 : i < (es.toList.map (·.key)).length := by simpa using hi
      have b2 : j < (es.toList.map (·.key)).length := by simpa using hjl
      rw [List.getElem?_eq_getElem b1] at a1
      rw [List.getElem?_eq_getElem b2] at a2
      exact (List.getElem_inj this).1 (Option.some.inj (a1.trans a2.symm))
    have mem : ∀ (x : MapEntry), x ∈ (es.modify j fun e => { e with key := k, val := v }).toList ↔ (x = { e with key := k, val := v }) ∨ (x ∈ es.toList ∧ x.key ≠ k) := by
      intro x
      constructor
      · intro hx
        obtain ⟨i, hi⟩ := List.mem_iff_getElem?.1 hx
        rw [Array.getElem?_toList, Array.getElem?_modify] at hi
        by_cases hij : j = i
        · subst hij
          rw [if_pos rfl, hj] at hi
          exact .inl (Option.some.inj hi).symm
        · rw [if_neg hij] at hi
          exact .inr ⟨Array.mem_toList_iff.2 (Array.mem_of_getElem? hi), fun hk2 => hij (hnd i x hi hk2).symm⟩
      · rintro (rfl | ⟨hx, hne⟩)
        · refine List.mem_iff_getElem?.2 ⟨j, ?_⟩
          rw [Array.getElem?_toList, Array.getElem?_modify, if_pos rfl, hj]
          rfl
        · obtain ⟨i, hi⟩ := List.mem_iff_getElem?.1 hx
          rw [Array.getElem?_toList] at hi
          refine List.mem_iff_getElem?.2 ⟨i, ?_⟩
          rw [Array.getElem?_toList, Array.getElem?_modify, if_neg (fun hij => ?_), hi]
          subst hij
          rw [hj] at hi
          cases hi
          exact hne q3
    by_cases he : k' = k
    · subst he
      rw [e1]
      constructor
      · intro h; cases h; exact ⟨_, (mem _).2 (.inl rfl), rfl, rfl⟩
      · rintro ⟨x, hx, r1, r2⟩
        rcases (mem x).1 hx with rfl | ⟨_, hne⟩
        · rw [← r2]
        · exact absurd r1 hne
    · rw [e2 k' he, h5 k' v' hk']
      constructor
      · rintro ⟨x, hx, r1, r2⟩
        exact ⟨x, (mem x).2 (.inr ⟨hx, fun h => he (r1 ▸ h)⟩), r1, r2⟩
      · rintro ⟨x, hx, r1, r2⟩
        rcases (mem x).1 hx with rfl | ⟨hx, _⟩
        · exact absurd r1.symm he
        · exact ⟨x, hx, r1, r2⟩
end Go.MapF
