/- A part of the proof: an interpreter of the program, shown right once, and the laws that it computes. -/
namespace Go.DiagLaw
/-- Code, from, to. -/
abbrev Dg := Int × Int × Int
/-- One stands ahead of another one. -/
def ahead (x y : Dg) : Bool := decide (x.2.1 < y.2.1) || (decide (x.2.1 = y.2.1) && (decide (x.2.2 < y.2.2) || (decide (x.2.2 = y.2.2) && decide (x.1 < y.1))))
theorem ahead_iff {x y : Dg} : ahead x y = true ↔ x.2.1 < y.2.1 ∨ x.2.1 = y.2.1 ∧ (x.2.2 < y.2.2 ∨ x.2.2 = y.2.2 ∧ x.1 < y.1) := by simp [ahead]
theorem ahead_irrefl (x : Dg) : ¬ ahead x x = true := by rw [ahead_iff]; omega
theorem ahead_trans {x y z : Dg} (h : ahead x y = true) (k : ahead y z = true) : ahead x z = true := by
  rw [ahead_iff] at *; omega
theorem ahead_tri {x y : Dg} (h : ¬ ahead x y = true) (k : ¬ ahead y x = true) : x = y := by
  rw [ahead_iff] at h k
  exact Prod.ext (by omega) (Prod.ext (by omega) (by omega))
theorem ahead_asymm {x y : Dg} (h : ahead x y = true) : ¬ ahead y x = true := fun k => ahead_irrefl _ (ahead_trans h k)
abbrev Strict (l : List Dg) : Prop := l.Pairwise fun x y => ahead x y = true
theorem uniq : ∀ {l m : List Dg}, Strict l → Strict m → (∀ x, x ∈ l ↔ x ∈ m) → l = m
  | [], [], _, _, _ => rfl
  | [], b :: m, _, _, h => absurd ((h b).2 List.mem_cons_self) (by simp)
  | a :: l, [], _, _, h => absurd ((h a).1 List.mem_cons_self) (by simp)
  | a :: l, b :: m, hl, hm, h => by
    have hl := List.pairwise_cons.1 hl
    have hm := List.pairwise_cons.1 hm
    have e : a = b := by
      rcases List.mem_cons.1 ((h a).1 List.mem_cons_self) with e | h1
      · exact e
      · rcases List.mem_cons.1 ((h b).2 List.mem_cons_self) with e | h2
        · exact e.symm
        · exact absurd (hl.1 b h2) (ahead_asymm (hm.1 a h1))
    subst e
    rw [uniq hl.2 hm.2 fun x => ?_]
    constructor
    · intro hx
      rcases List.mem_cons.1 ((h x).1 (List.mem_cons_of_mem _ hx)) with e | h1
      · subst e; exact absurd (hl.1 x hx) (ahead_irrefl x)
      · exact h1
    · intro hx
      rcases List.mem_cons.1 ((h x).2 (List.mem_cons_of_mem _ hx)) with e | h1
      · subst e; exact absurd (hm.1 x hx) (ahead_irrefl x)
      · exact h1
theorem getD_lt {L : List Dg} {k : Nat} (hk : k < L.length) : L.getD k (0, 0, 0) = L[k] := by simp [List.getD, hk]
/-- Each once, in the order in which they came. -/
def once (L : List Dg) : List Dg := L.foldl (fun out x => if x ∈ out then out else out ++ [x]) []
theorem once_step (L : List Dg) : ∀ out : List Dg, out.Nodup → (L.foldl (fun out x => if x ∈ out then out else out ++ [x]) out).Nodup ∧ ∀ z, z ∈ L.foldl (fun out x => if x ∈ out then out else out ++ [x]) out ↔ z ∈ out ∨ z ∈ L := by
  induction L with
  | nil => intro out h; exact ⟨h, fun z => by simp⟩
  | cons x L ih =>
    intro out h
    rw [List.foldl_cons]
    by_cases hx : x ∈ out
    · rw [if_pos hx]
      obtain ⟨h1, h2⟩ := ih out h
      refine ⟨h1, fun z => ?_⟩
      rw [h2, List.mem_cons]
      constructor
      · rintro (h | h)
        · exact .inl h
        · exact .inr (.inr h)
      · rintro (h | h | h)
        · exact .inl h
        · subst h; exact .inl hx
        · exact .inr h
    · rw [if_neg hx]
      obtain ⟨h1, h2⟩ := ih (out ++ [x]) (by
        rw [List.nodup_append]
        refine ⟨h, by simp, fun a ha b hb => ?_⟩
        rw [List.mem_singleton] at hb
        subst hb
        intro e; subst e; exact hx ha)
      refine ⟨h1, fun z => ?_⟩
      rw [h2, List.mem_cons, List.mem_append, List.mem_singleton]
      constructor
      · rintro ((h | h) | h)
        · exact .inl h
        · exact .inr (.inl h)
        · exact .inr (.inr h)
      · rintro (h | h | h)
        · exact .inl (.inl h)
        · exact .inl (.inr h)
        · exact .inr h
theorem once_nodup (L : List Dg) : (once L).Nodup := (once_step L [] List.nodup_nil).1
theorem mem_once {L : List Dg} {x : Dg} : x ∈ once L ↔ x ∈ L := by
  unfold once
  rw [(once_step L [] List.nodup_nil).2]
  simp
end Go.DiagLaw
