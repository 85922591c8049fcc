/- A part of the proof: an interpreter of the program, shown right once, and the laws that it computes. -/
import Derived.Test.YtpanfhfcpniodaaGreatDoorTWm
import Derived.Test.YtpanfhfcpniodaaGreatDoorMF
import Derived.OwnWalk
import Derived.Laws.AppendOwn
namespace Go.Proofs.YtpanfhfcpniodaaGreatDoor
open Go.Eng Go.RowKit Go.MapF Go.MapKept
set_option linter.unusedVariables false
/-- The word of the value with a number (but for the last one). -/
def kw (K : Nat → Nat) (j : Nat) : ByteArray := if j % 2 = 0 then strN (ksL (K (j / 2))) else strN (dsL (48 + j / 2 % 10))
theorem strN_inj {a b : List Nat} (ha : ∀ x ∈ a, x < 256) (hb : ∀ x ∈ b, x < 256) (h : strN a = strN b) : a = b := by
  rw [← sr_N a ha, ← sr_N b hb, h]
theorem kw_even {K : Nat → Nat} {i i' : Nat} (h1 : K i < 256) (h2 : K i' < 256) : kw K (2 * i) = kw K (2 * i') ↔ K i = K i' := by
  unfold kw
  rw [if_pos (by omega), if_pos (by omega), show 2 * i / 2 = i by omega, show 2 * i' / 2 = i' by omega]
  constructor
  · intro h
    have := strN_inj (by simp [ksL]; omega) (by simp [ksL]; omega) h
    simpa [ksL] using this
  · intro h; rw [h]
/-- Cells that are numbers. -/
def ints (L : List Nat) : List Value := L.map fun x => .int .i64 (x : Nat)
theorem ints_len (L : List Nat) : (ints L).length = L.length := by simp [ints]
theorem ints_add (L : List Nat) (c : Nat) : ints L ++ [.int .i64 (c : Nat)] = ints (L ++ [c]) := by simp [ints]
/-- A row of numbers, read. -/
structure OutRow (w : World) (B : Nat) (v : Value) (L : List Nat) : Prop where
  own : w.ownsRow B 3 1 v L.length (ints L)
theorem own_below {w w' : World} {B e sz n : Nat} {v : Value} {xs : List Value} (h : w.ownsRow B e sz v n xs) (hB : Below w.heap.size w w') : w'.ownsRow B e sz v n xs := by
  refine ⟨h.1, ?_⟩
  rcases h.2 with h | ⟨g, cap, cur, hv, h1, h2, h3, h4, h5, h6⟩
  · exact .inl h
  · exact .inr ⟨g, cap, cur, hv, h1, (hB.block g (Array.getElem?_eq_some_iff.1 h2).1).trans h2, h3, h4, h5, h6⟩
theorem own_keep {w w' : World} {B e sz n mb : Nat} {v : Value} {xs : List Value} (h : w.ownsRow B e sz v n xs) (hb : mb < B) (hs : ∀ b, b ≠ mb → w'.heap[b]? = w.heap[b]?) : w'.ownsRow B e sz v n xs := by
  refine ⟨h.1, ?_⟩
  rcases h.2 with h | ⟨g, cap, cur, hv, h1, h2, h3, h4, h5, h6⟩
  · exact .inl h
  · exact .inr ⟨g, cap, cur, hv, h1, (hs g (by omega)).trans h2, h3, h4, h5, h6⟩
theorem own_cells {w : World} {B : Nat} {v : Value} {L : List Nat} (h : w.ownsRow B 3 1 v L.length (ints L)) (hn : L ≠ []) : ∃ g cap, v = .slice (some ⟨g, 0, none⟩) L.length cap ∧ B ≤ g ∧ g < w.heap.size ∧ ∀ j x, L[j]? = some x → w.cell? ⟨g, j, none⟩ = some (.int .i64 (x : Nat)) := by
  rcases h.2 with ⟨_, h⟩ | ⟨g, cap, cur, hv, h1, h2, h3, h4, h5, h6⟩
  · exact absurd (List.length_eq_zero_iff.1 h) hn
  · refine ⟨g, cap, hv, h1, (Array.getElem?_eq_some_iff.1 h2).1, fun j x hj => ?_⟩
    rw [cell_eq h2]
    have : (ints L)[j]? = some (.int .i64 (x : Nat)) := by unfold ints; rw [List.getElem?_map, hj]; rfl
    rw [← h6] at this
    rw [List.getElem?_take] at this
    split at this
    · simpa using this
    · cases this
theorem info3 : (Tryz.prog.info? 3).map (fun i => (i.zero, i.size, i.bytes)) = some (some (.int .i64 0), 1, 8) := by kernel_rfl
theorem info_parts {i : Option TypeInfo} {z : Value} {s b : Nat} (h : i.map (fun i => (i.zero, i.size, i.bytes)) = some (some z, s, b)) : ∃ i0, i = some i0 ∧ i0.zero = some z ∧ i0.size = s ∧ i0.bytes = b := by
  cases i with
  | none => cases h
  | some i0 => simp at h; exact ⟨i0, rfl, h.1, h.2.1, h.2.2⟩
/-- The map: which numbers the words have that were met. -/
structure Seen (w : World) (mb cnt : Nat) (F : Value → Option Value) (K : Nat → Nat) (L : List Nat) (n : Nat) : Prop where
  map : MapF w .string mb cnt F
  inj : ∀ (s t : ByteArray) (v : Value), F (.string s) = some v → F (.string t) = some v → s = t
  val : ∀ (s : ByteArray) (v : Value), F (.string s) = some v → ∃ c : Nat, c < cnt ∧ v = .int .i64 c
  met : ∀ (j c : Nat), j < 2 * n → L[j]? = some c → F (.string (kw K j)) = some (.int .i64 (c : Nat))
  lt : ∀ c ∈ L, c < cnt
  cnt : cnt ≤ L.length
theorem Seen.keep {w w' : World} {mb cnt : Nat} {F : Value → Option Value} {K : Nat → Nat} {L : List Nat} {n : Nat} (h : Seen w mb cnt F K L n) (e : w'.heap[mb]? = w.heap[mb]?) : Seen w' mb cnt F K L n :=
  ⟨h.map.congr e, h.inj, h.val, h.met, h.lt, h.cnt⟩
theorem isKeyS (s : ByteArray) : IsKey .string (.string s) := by trivial
theorem und56 : Tryz.prog.underlying 56 = some (.map 9 3) := by kernel_rfl
theorem und9 : Tryz.prog.underlying 9 = some .string := by kernel_rfl
theorem zero3 (w : World) : (zeroValue 3).run Tryz.prog w = .ok (.int .i64 0) w := by kernel_rfl
/-- A word that was met. -/
theorem Seen.old {w : World} {mb cnt : Nat} {F : Value → Option Value} {K : Nat → Nat} {L : List Nat} {n : Nat} (h : Seen w mb cnt F K L n) {s : ByteArray} (hs : L.length < 2 * n → s = kw K L.length) {c : Nat} (hF : F (.string s) = some (.int .i64 (c : Nat))) :
    Seen w mb cnt F K (L ++ [c]) n := by
  obtain ⟨c', hc', he⟩ := h.val s _ hF
  have hcc : c = c' := by
    injection he with _ he
    omega
  refine ⟨h.map, h.inj, h.val, fun j x hj hx => ?_, fun x hx => ?_, by have := h.cnt; simp; omega⟩
  · by_cases hl : j < L.length
    · rw [List.getElem?_append_left hl] at hx; exact h.met j x hj hx
    · have : j = L.length := by
        rcases Nat.lt_or_ge j (L ++ [c]).length with q | q
        · simp at q; omega
        · rw [List.getElem?_eq_none q] at hx; cases hx
      subst this
      rw [List.getElem?_append_right (Nat.le_refl _)] at hx
      simp at hx; subst hx
      rw [← hs hj]; exact hF
  · rcases List.mem_append.1 hx with hx | hx
    · exact h.lt x hx
    · simp at hx; subst hx; omega
open Classical in
/-- A new word. -/
theorem Seen.new {w : World} {mb cnt : Nat} {F : Value → Option Value} {K : Nat → Nat} {L : List Nat} {n : Nat} (h : Seen w mb cnt F K L n) {s : ByteArray} (hs : L.length < 2 * n → s = kw K L.length) (hF : F (.string s) = none) :
    ∃ W2, (Instr.mapUpdate 56 (.map (some mb)) (.string s) (.int .i64 (cnt : Nat))).run Tryz.prog w = .ok () W2 ∧ (∀ b, b ≠ mb → W2.heap[b]? = w.heap[b]?) ∧ Below mb w W2 ∧
      ∃ F', Seen W2 mb (cnt + 1) F' K (L ++ [cnt]) n := by
  obtain ⟨W2, h1, h2, h3, h4⟩ := h.map.update und56 und9 (isKeyS s) (.int .i64 (cnt : Nat))
  refine ⟨W2, h1, h3, h4, fun k => if k = .string s then some (.int .i64 (cnt : Nat)) else F k, ?_, ?_, ?_, ?_, ?_, ?_⟩
  · have := h2 (fun k => if k = .string s then some (.int .i64 (cnt : Nat)) else F k) (if_pos rfl) (fun k' hk => if_neg hk)
    rw [hF] at this
    exact this
  · intro a b v ha hb
    by_cases ea : Value.string a = .string s
    · by_cases eb : Value.string b = .string s
      · rw [← eb] at ea; injection ea
      · rw [if_pos ea] at ha; rw [if_neg eb] at hb
        have hv := Option.some.inj ha
        obtain ⟨c, hc, he⟩ := h.val b _ hb
        rw [← hv] at he
        have hh : ((cnt : Nat) : Int) = (c : Int) := by injection he
        omega
    · by_cases eb : Value.string b = .string s
      · rw [if_neg ea] at ha; rw [if_pos eb] at hb
        have hv := Option.some.inj hb
        obtain ⟨c, hc, he⟩ := h.val a _ ha
        rw [← hv] at he
        have hh : ((cnt : Nat) : Int) = (c : Int) := by injection he
        omega
      · rw [if_neg ea] at ha; rw [if_neg eb] at hb
        exact h.inj a b v ha hb
  · intro a v ha
    by_cases ea : Value.string a = .string s
    · rw [if_pos ea] at ha; cases ha; exact ⟨cnt, by omega, rfl⟩
    · rw [if_neg ea] at ha
      obtain ⟨c, hc, he⟩ := h.val a v ha
      exact ⟨c, by omega, he⟩
  · intro j x hj hx
    by_cases hl : j < L.length
    · rw [List.getElem?_append_left hl] at hx
      have := h.met j x hj hx
      rw [if_neg]
      · exact this
      · intro e; rw [e, hF] at this; cases this
    · have : j = L.length := by
        rcases Nat.lt_or_ge j (L ++ [cnt]).length with q | q
        · simp at q; omega
        · rw [List.getElem?_eq_none q] at hx; cases hx
      subst this
      rw [List.getElem?_append_right (Nat.le_refl _)] at hx
      simp at hx; subst hx
      rw [if_pos]
      rw [← hs hj]
  · intro x hx
    rcases List.mem_append.1 hx with hx | hx
    · have := h.lt x hx; omega
    · simp at hx; omega
  · have := h.cnt; simp; omega
theorem Seen.first (w : World) (mb : Nat) (K : Nat → Nat) (n : Nat) (h : w.heap[mb]? = some (.map #[] 0)) : Seen w mb 0 (fun _ => none) K [] n :=
  ⟨⟨#[], 0, h, rfl, stamped_empty 0, fun x hx => absurd hx (by simp), fun k v _ => by simp⟩, fun s t v h => by simp at h, fun s v h => by simp at h, fun j c _ h => by simp at h, fun c h => by simp at h, Nat.le_refl _⟩
/-- What is looked up. -/
theorem Seen.look {w : World} {mb cnt : Nat} {F : Value → Option Value} {K : Nat → Nat} {L : List Nat} {n : Nat} (h : Seen w mb cnt F K L n) (s : ByteArray) :
    (∃ c : Nat, F (.string s) = some (.int .i64 (c : Nat)) ∧ (Instr.lookup 56 (.map (some mb)) (.string s) true).run Tryz.prog w = .ok (.tuple #[.int .i64 (c : Nat), .bool true]) w) ∨
    (F (.string s) = none ∧ (Instr.lookup 56 (.map (some mb)) (.string s) true).run Tryz.prog w = .ok (.tuple #[.int .i64 0, .bool false]) w) := by
  have := (h.map.lookup und56 und9 (isKeyS s) zero3).1
  cases hF : F (.string s) with
  | none => rw [hF] at this; exact .inr ⟨rfl, this⟩
  | some v =>
    obtain ⟨c, _, rfl⟩ := h.val s v hF
    rw [hF] at this
    exact .inl ⟨c, rfl, this⟩
/-- What the keys' numbers tell. -/
theorem Seen.same {w : World} {mb cnt : Nat} {F : Value → Option Value} {K : Nat → Nat} {L : List Nat} {n : Nat} (h : Seen w mb cnt F K L n) (hl : 2 * n ≤ L.length) (hK : ∀ i, i < n → K i < 256) {i i' : Nat} (hi : i < n) (hi' : i' < n) :
    L.getD (2 * i) 0 = L.getD (2 * i') 0 ↔ K i = K i' := by
  have e1 : L[2 * i]? = some (L.getD (2 * i) 0) := by rw [List.getD_eq_getElem?_getD, List.getElem?_eq_getElem (by omega)]; rfl
  have e2 : L[2 * i']? = some (L.getD (2 * i') 0) := by rw [List.getD_eq_getElem?_getD, List.getElem?_eq_getElem (by omega)]; rfl
  have f1 := h.met _ _ (by omega) e1
  have f2 := h.met _ _ (by omega) e2
  constructor
  · intro he
    rw [he] at f1
    exact (kw_even (hK i hi) (hK i' hi')).1 (h.inj _ _ _ f1 f2)
  · intro he
    rw [(kw_even (hK i hi) (hK i' hi')).2 he, f2] at f1
    have := Option.some.inj f1
    injection this with _ this
    omega
end Go.Proofs.YtpanfhfcpniodaaGreatDoor
