/- A part of the proof: an interpreter of the program, shown right once, and the laws that it computes. -/
namespace Go.SpanLaw
abbrev Sp := Int × Int
/-- One stands ahead of another one. -/
def ahead (x y : Sp) : Bool := decide (x.1 < y.1) || (decide (x.1 = y.1) && decide (x.2 < y.2))
theorem ahead_iff {x y : Sp} : ahead x y = true ↔ x.1 < y.1 ∨ x.1 = y.1 ∧ x.2 < y.2 := by simp [ahead]
theorem ahead_irrefl (x : Sp) : ¬ ahead x x = true := by rw [ahead_iff]; omega
theorem ahead_trans {x y z : Sp} (h : ahead x y = true) (k : ahead y z = true) : ahead x z = true := by
  rw [ahead_iff] at *; omega
theorem ahead_tri {x y : Sp} (h : ¬ ahead x y = true) (k : ¬ ahead y x = true) : x = y := by
  rw [ahead_iff] at h k
  exact Prod.ext (by omega) (by omega)
theorem ahead_asymm {x y : Sp} (h : ahead x y = true) : ¬ ahead y x = true := fun k => ahead_irrefl _ (ahead_trans h k)
abbrev Strict (l : List Sp) : Prop := l.Pairwise fun x y => ahead x y = true
theorem uniq : ∀ {l m : List Sp}, Strict l → Strict m → (∀ x, x ∈ l ↔ x ∈ m) → l = m
  | [], [], _, _, _ => rfl
  | [], b :: m, _, _, h => absurd ((h b).2 List.mem_cons_self) (by simp)
  | a :: l, [], _, _, h => absurd ((h a).1 List.mem_cons_self) (by simp)
  | a :: l, b :: m, hl, hm, h => by
    have hl := List.pairwise_cons.1 hl
    have hm := List.pairwise_cons.1 hm
    have e : a = b := by
      rcases List.mem_cons.1 ((h a).1 List.mem_cons_self) with e | h1
      · exact e
      · rcases List.mem_cons.1 ((h b).2 List.mem_cons_self) with e | h2
        · exact e.symm
        · exact absurd (hl.1 b h2) (ahead_asymm (hm.1 a h1))
    subst e
    rw [uniq hl.2 hm.2 fun x => ?_]
    constructor
    · intro hx
      rcases List.mem_cons.1 ((h x).1 (List.mem_cons_of_mem _ hx)) with e | h1
      · subst e; exact absurd (hl.1 x hx) (ahead_irrefl x)
      · exact h1
    · intro hx
      rcases List.mem_cons.1 ((h x).2 (List.mem_cons_of_mem _ hx)) with e | h1
      · subst e; exact absurd (hm.1 x hx) (ahead_irrefl x)
      · exact h1
/-- Each once, of neighbours. -/
def cptG (p : Sp) : List Sp → List Sp
  | [] => []
  | y :: l => if y = p then cptG y l else y :: cptG y l
def cpt : List Sp → List Sp
  | [] => []
  | x :: l => x :: cptG x l
abbrev Up (l : List Sp) : Prop := l.Pairwise fun x y => ¬ ahead y x = true
theorem cptG_mem : ∀ {l : List Sp} {p x : Sp}, x ∈ cptG p l → x ∈ l
  | [], _, _, h => h
  | y :: l, p, x, h => by
    unfold cptG at h
    split at h
    · exact List.mem_cons_of_mem _ (cptG_mem h)
    · rcases List.mem_cons.1 h with e | h
      · subst e; exact List.mem_cons_self
      · exact List.mem_cons_of_mem _ (cptG_mem h)
theorem mem_cptG : ∀ {l : List Sp} {p x : Sp}, x ∈ l → x = p ∨ x ∈ cptG p l
  | y :: l, p, x, h => by
    unfold cptG
    rcases List.mem_cons.1 h with e | h
    · subst e
      split
      · rename_i e; exact .inl e
      · exact .inr List.mem_cons_self
    · have := mem_cptG (p := y) h
      split
      · rename_i e; subst e; exact this
      · rcases this with e | h
        · subst e; exact .inr List.mem_cons_self
        · exact .inr (List.mem_cons_of_mem _ h)
theorem cptG_strict : ∀ {l : List Sp} {p : Sp}, (∀ x ∈ l, ¬ ahead x p = true) → Up l → Strict (p :: cptG p l)
  | [], _, _, _ => by simp [cptG]
  | y :: l, p, hp, hl => by
    have hl := List.pairwise_cons.1 hl
    have ih := cptG_strict (p := y) (l := l) (fun x hx => hl.1 x hx) hl.2
    unfold cptG
    split
    · rename_i e; subst e; exact ih
    · rename_i hne
      refine List.pairwise_cons.2 ?_
      have h1 : ahead p y = true := by
        cases h : ahead p y
        · exact absurd (ahead_tri (by rw [h]; decide) (hp y List.mem_cons_self)) (Ne.symm hne)
        · rfl
      refine ⟨fun x hx => ?_, ih⟩
      rcases List.mem_cons.1 hx with e | hx
      · subst e; exact h1
      · exact ahead_trans h1 ((List.pairwise_cons.1 ih).1 x hx)
theorem cpt_strict {l : List Sp} (h : Up l) : Strict (cpt l) := by
  cases l with
  | nil => exact List.Pairwise.nil
  | cons x l =>
    have h := List.pairwise_cons.1 h
    exact cptG_strict h.1 h.2
theorem mem_cpt {l : List Sp} {x : Sp} : x ∈ cpt l ↔ x ∈ l := by
  cases l with
  | nil => exact Iff.rfl
  | cons y l =>
    unfold cpt
    constructor
    · intro h
      rcases List.mem_cons.1 h with e | h
      · subst e; exact List.mem_cons_self
      · exact List.mem_cons_of_mem _ (cptG_mem h)
    · intro h
      rcases List.mem_cons.1 h with e | h
      · subst e; exact List.mem_cons_self
      · rcases mem_cptG (p := y) h with e | h
        · subst e; exact List.mem_cons_self
        · exact List.mem_cons_of_mem _ h
/-- The document's way: each is put where it belongs. -/
def ins (x : Sp) : List Sp → List Sp
  | [] => [x]
  | y :: l => if ahead y x = true then y :: ins x l else if y = x then y :: l else x :: y :: l
theorem mem_ins {x z : Sp} : ∀ {l : List Sp}, z ∈ ins x l ↔ z = x ∨ z ∈ l
  | [] => by simp [ins]
  | y :: l => by
    unfold ins
    split
    · rw [List.mem_cons, List.mem_cons, mem_ins]
      constructor
      · rintro (h | h | h)
        · exact .inr (.inl h)
        · exact .inl h
        · exact .inr (.inr h)
      · rintro (h | h | h)
        · exact .inr (.inl h)
        · exact .inl h
        · exact .inr (.inr h)
    · split
      · rename_i e
        subst e
        simp
      · simp
theorem ins_strict {x : Sp} : ∀ {l : List Sp}, Strict l → Strict (ins x l)
  | [], _ => by simp [ins]
  | y :: l, h => by
    have h' := List.pairwise_cons.1 h
    unfold ins
    split
    · rename_i hy
      refine List.pairwise_cons.2 ?_
      refine ⟨fun z hz => ?_, ins_strict h'.2⟩
      rcases mem_ins.1 hz with e | hz
      · subst e; exact hy
      · exact h'.1 z hz
    · split
      · exact h
      · rename_i h1 h2
        have hxy : ahead x y = true := by
          cases hh : ahead x y
          · exact absurd (ahead_tri (by rw [hh]; decide) h1) (Ne.symm h2)
          · rfl
        refine List.pairwise_cons.2 ?_
        refine ⟨fun z hz => ?_, h⟩
        rcases List.mem_cons.1 hz with e | hz
        · subst e; exact hxy
        · exact ahead_trans hxy (h'.1 z hz)
def sorts (l : List Sp) : List Sp := l.foldl (fun out x => ins x out) []
theorem foldl_ins (l : List Sp) : ∀ (out : List Sp), Strict out → Strict (l.foldl (fun out x => ins x out) out) ∧ ∀ z, z ∈ l.foldl (fun out x => ins x out) out ↔ z ∈ out ∨ z ∈ l := by
  induction l with
  | nil => intro out h; exact ⟨h, fun z => by simp⟩
  | cons x l ih =>
    intro out h
    obtain ⟨h1, h2⟩ := ih (ins x out) (ins_strict h)
    refine ⟨h1, fun z => ?_⟩
    rw [List.foldl_cons, h2, mem_ins, List.mem_cons]
    constructor
    · rintro ((h | h) | h)
      · exact .inr (.inl h)
      · exact .inl h
      · exact .inr (.inr h)
    · rintro (h | h | h)
      · exact .inl (.inr h)
      · exact .inl (.inl h)
      · exact .inr h
/-- Put in order, and each once, is the document's. -/
theorem cpt_sorts {l m : List Sp} (hm : Up m) (hp : ∀ x, x ∈ m ↔ x ∈ l) : cpt m = sorts l := by
  obtain ⟨h1, h2⟩ := foldl_ins l [] List.Pairwise.nil
  refine uniq (cpt_strict hm) h1 fun x => ?_
  rw [mem_cpt, hp]
  show _ ↔ x ∈ sorts l
  unfold sorts
  rw [h2]
  simp
end Go.SpanLaw
