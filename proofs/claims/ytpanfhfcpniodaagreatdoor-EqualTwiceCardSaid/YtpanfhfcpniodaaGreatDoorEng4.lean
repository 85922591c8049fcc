/- A part of the proof: an interpreter of the program, shown right once, and the laws that it computes. -/
import Derived.Test.YtpanfhfcpniodaaGreatDoorEng3
set_option linter.constructorNameAsVariable false
set_option linter.unusedVariables false
namespace Go.Eng
variable {P : Program}

theorem allB_iff {α : Type} (f : α → Bool) : ∀ (l : List α), allB f l = true ↔ ∀ x ∈ l, f x = true
  | [] => by simp [allB]
  | x :: l => by
    show Bool.rec (motive := fun _ => Bool) false (allB f l) (f x) = true ↔ _
    cases h : f x
    · simp [h]
    · simp [h]; exact allB_iff f l

/- places -/
theorem add_none (b o n : Nat) : Addr.add ⟨b, o, none⟩ n = ⟨b, o + n, none⟩ := by
  unfold Addr.add; split
  · rename_i h; subst h; rfl
  · rfl

/-- A block's row, put in another one's place. -/
def setRow (w : World) (b : Nat) (o : Obj) : World := { w with heap := w.heap.setIfInBounds b o }

theorem cell_eq {w : World} {b off : Nat} {arr : Array Value} {e : Nat} {fr : Nat × Nat} (h : w.heap[b]? = some (.cells arr e fr)) : w.cell? ⟨b, off, none⟩ = arr[off]? := by
  unfold World.cell?; simp [h]
theorem frozen_eq {w : World} {b off : Nat} {arr : Array Value} {e : Nat} {fr : Nat × Nat} (h : w.heap[b]? = some (.cells arr e fr)) : w.frozen? ⟨b, off, none⟩ = (decide (fr.1 ≤ off) && decide (off < fr.2)) := by
  unfold World.frozen?; simp [h]
theorem shape_eq {w : World} {b : Nat} {arr : Array Value} {e : Nat} {fr : Nat × Nat} (h : w.heap[b]? = some (.cells arr e fr)) : w.shape? b = some (e, arr.size) := by
  unfold World.shape?; simp [h]
theorem setCell_eq {w : World} {b off : Nat} {arr : Array Value} {e : Nat} {fr : Nat × Nat} (h : w.heap[b]? = some (.cells arr e fr)) (v : Value) :
    w.setCell ⟨b, off, none⟩ v = setRow w b (.cells (arr.setIfInBounds off v) e fr) := by
  unfold World.setCell setRow
  congr 1
  apply Array.ext_getElem?
  intro i
  rw [Array.getElem?_modify, Array.getElem?_setIfInBounds]
  by_cases hi : b = i
  · subst hi
    have hlt : b < w.heap.size := by
      rcases Nat.lt_or_ge b w.heap.size with h' | h'
      · exact h'
      · simp [Array.getElem?_eq_none h'] at h
    have hg : w.heap[b] = .cells arr e fr := by simpa [Array.getElem?_eq_getElem hlt] using h
    simp [hlt, hg]
  · simp [hi]
theorem setRow_get {w : World} {b : Nat} {o : Obj} (h : b < w.heap.size) : (setRow w b o).heap[b]? = some o := by
  unfold setRow; simp [h]
theorem setRow_other {w : World} {b x : Nat} {o : Obj} (h : x ≠ b) : (setRow w b o).heap[x]? = w.heap[x]? := by
  unfold setRow; simp [Ne.symm h]
theorem setRow_size {w : World} {b : Nat} {o : Obj} : (setRow w b o).heap.size = w.heap.size := by
  unfold setRow; simp
theorem setRow_setRow {w : World} {b : Nat} {o o' : Obj} : setRow (setRow w b o) b o' = setRow w b o' := by
  unfold setRow
  congr 1
  simp
theorem lt_of_get {w : World} {b : Nat} {o : Obj} (h : w.heap[b]? = some o) : b < w.heap.size := by
  rcases Nat.lt_or_ge b w.heap.size with h' | h'
  · exact h'
  · simp [Array.getElem?_eq_none h'] at h

/-- Values, written into a row from a cell on. -/
def wrArr (arr : Array Value) (off : Nat) : List Value → Array Value
  | [] => arr
  | v :: vs => wrArr (arr.setIfInBounds off v) (off + 1) vs
theorem size_wrArr : ∀ (vs : List Value) (arr : Array Value) (off : Nat), (wrArr arr off vs).size = arr.size
  | [], _, _ => rfl
  | v :: vs, arr, off => by unfold wrArr; rw [size_wrArr vs]; simp
theorem get_wrArr : ∀ (vs : List Value) (arr : Array Value) (off k : Nat), off + vs.length ≤ arr.size →
    (wrArr arr off vs)[k]? = if off ≤ k ∧ k < off + vs.length then vs[k - off]? else arr[k]?
  | [], arr, off, k, _ => by rw [if_neg (by simp)]; rfl
  | v :: vs, arr, off, k, h => by
    unfold wrArr
    simp only [List.length_cons] at h
    rw [get_wrArr vs _ _ _ (by simp; omega)]
    by_cases h1 : k = off
    · subst h1
      rw [if_neg (by omega), if_pos (by simp)]
      rw [Array.getElem?_setIfInBounds_self_of_lt (by omega)]; simp
    · by_cases h2 : off ≤ k ∧ k < off + (v :: vs).length
      · have h3 : off + 1 ≤ k ∧ k < off + 1 + vs.length := by simp at h2; omega
        rw [if_pos h2, if_pos h3]
        have e : k - off = (k - (off + 1)) + 1 := by omega
        rw [e, List.getElem?_cons_succ]
      · have h3 : ¬ (off + 1 ≤ k ∧ k < off + 1 + vs.length) := by simp at h2; omega
        rw [if_neg h2, if_neg h3]
        simp [Ne.symm h1]

theorem run_storeCells : ∀ (vs : List Value) (w : World) (b off i : Nat) (arr : Array Value) (e : Nat) (fr : Nat × Nat), w.heap[b]? = some (.cells arr e fr) →
    off + i + vs.length ≤ arr.size → (∀ v ∈ vs, v.oneCell' = true) → (∀ j, off + i ≤ j → j < off + i + vs.length → ¬ (fr.1 ≤ j ∧ j < fr.2)) →
    (storeCells ⟨b, off, none⟩ vs i).run P w = .ok () (setRow w b (.cells (wrArr arr (off + i) vs) e fr))
  | [], w, b, off, i, arr, e, fr, h, _, _, _ => by
    unfold storeCells wrArr
    simp only [Sem.run_pure]
    congr 1
    unfold setRow
    have hlt := lt_of_get h
    have : w.heap.setIfInBounds b (.cells arr e fr) = w.heap := by
      apply Array.ext_getElem?
      intro j
      rw [Array.getElem?_setIfInBounds]
      by_cases hj : b = j
      · subst hj
        have hg : w.heap[b] = .cells arr e fr := by simpa [Array.getElem?_eq_getElem hlt] using h
        simp [hlt, hg]
      · simp [hj]
    rw [this]
  | v :: vs, w, b, off, i, arr, e, fr, h, hl, h1, hf => by
    unfold storeCells
    simp only [List.length_cons] at hl hf
    have hfr : w.frozen? (Addr.add ⟨b, off, none⟩ i) = false := by
      rw [add_none, frozen_eq h]
      have := hf (off + i) (by omega) (by omega)
      simp only [Bool.and_eq_false_iff, decide_eq_false_iff_not]
      omega
    have hcell : ∃ x, w.cell? (Addr.add ⟨b, off, none⟩ i) = some x := by
      rw [add_none, cell_eq h]
      exact ⟨arr[off + i]'(by omega), Array.getElem?_eq_getElem (by omega)⟩
    obtain ⟨x, hx⟩ := hcell
    simp only [Sem.run_bind]
    rw [run_store P w _ _ _ (h1 v (by simp)), hx]
    simp only [hfr]
    simp only [Bool.false_eq_true, if_false, Result.andThen_ok]
    rw [add_none, setCell_eq h]
    have hlt := lt_of_get h
    rw [run_storeCells vs _ b off (i + 1) _ e fr (setRow_get hlt) (by simp; omega) (fun u hu => h1 u (by simp [hu])) (fun j hj hj' => hf j (by omega) (by omega))]
    rw [setRow_setRow]
    congr 3

theorem run_loadCellsFrom : ∀ (n : Nat) (w : World) (b off i : Nat) (arr : Array Value) (e : Nat) (fr : Nat × Nat) (acc : Array Value), w.heap[b]? = some (.cells arr e fr) →
    off + i + n ≤ arr.size → (loadCellsFrom ⟨b, off, none⟩ i n acc).run P w = .ok (acc ++ arr.extract (off + i) (off + i + n)) w
  | 0, w, b, off, i, arr, e, fr, acc, h, hl => by
    unfold loadCellsFrom
    simp only [Sem.run_pure]
    simp; omega
  | n + 1, w, b, off, i, arr, e, fr, acc, h, hl => by
    unfold loadCellsFrom
    simp only [Sem.run_bind, run_load]
    rw [add_none, cell_eq h, Array.getElem?_eq_getElem (show off + i < arr.size by omega)]
    simp only [Result.andThen_ok]
    rw [run_loadCellsFrom n w b off (i + 1) arr e fr _ h (by omega)]
    congr 1
    apply Array.ext'
    simp only [Array.toList_append, Array.toList_push, Array.toList_extract, List.append_assoc]
    congr 1
    rw [List.extract_eq_take_drop, List.extract_eq_take_drop]
    have : arr.toList.drop (off + i) = arr[off + i] :: arr.toList.drop (off + i + 1) := by
      have hlt : off + i < arr.toList.length := by simp; omega
      rw [List.drop_eq_getElem_cons hlt]; simp
    rw [this]
    have e1 : off + i + (n + 1) - (off + i) = n + 1 := by omega
    have e2 : off + (i + 1) + n - (off + (i + 1)) = n := by omega
    have e3 : off + (i + 1) = off + i + 1 := by omega
    rw [e1, e2, List.take_succ_cons, e3]
    rfl

theorem run_loadCells {n : Nat} {w : World} {b off : Nat} {arr : Array Value} {e : Nat} {fr : Nat × Nat} (h : w.heap[b]? = some (.cells arr e fr)) (hl : off + n ≤ arr.size) :
    (loadCells ⟨b, off, none⟩ n).run P w = .ok (arr.extract off (off + n)) w := by
  unfold loadCells
  have := run_loadCellsFrom (P := P) n w b off 0 arr e fr #[] h (by omega)
  simpa using this
end Go.Eng
