/- A part of the proof: an interpreter of the program, shown right once, and the laws that it computes. -/
import Derived.Test.YtjecgapnlnmloaaDJ
import Derived.Test.YtjecgapnlnmloaaDF
import Derived.Deep.RegionLaw
namespace Go.Proofs.Ytjecgapnlnmloaa
open Go.RowKit Go.Shelf Go.Lib Go.Sort Go.DiagLaw
set_option linter.unusedVariables false
namespace D
/-- One laid in at its place. -/
theorem ins_strict {M : List Dg} {x : Dg} {n : Nat} (hM : Strict M) (hn : n ≤ M.length) (h1 : ∀ j, n ≤ j → j < M.length → Go.DiagLaw.ahead x (M.getD j (0, 0, 0)) = true)
    (h2 : ∀ j, j + 1 = n → ¬ Go.DiagLaw.ahead x (M.getD j (0, 0, 0)) = true ∧ M.getD j (0, 0, 0) ≠ x) : Strict (M.take n ++ x :: M.drop n) ∧ ∀ z, z ∈ M.take n ++ x :: M.drop n ↔ z ∈ M ∨ z = x := by
  have hlow : ∀ z, z ∈ M.take n → Go.DiagLaw.ahead z x = true := by
    intro z hz
    obtain ⟨i, hi, rfl⟩ := List.mem_iff_getElem.1 hz
    rw [List.length_take] at hi
    rw [List.getElem_take]
    obtain ⟨j, rfl⟩ : ∃ j, n = j + 1 := ⟨n - 1, by omega⟩
    obtain ⟨k1, k2⟩ := h2 j rfl
    rw [DiagLaw.getD_lt (by omega : j < M.length)] at k1 k2
    have hl : Go.DiagLaw.ahead (M[j]'(by omega)) x = true := by
      cases hh : Go.DiagLaw.ahead (M[j]'(by omega)) x
      · exact absurd (ahead_tri (by rw [hh]; decide) k1) k2
      · rfl
    by_cases e : i = j
    · subst e; exact hl
    · exact ahead_trans (List.pairwise_iff_getElem.1 hM i j (by omega) (by omega) (by omega)) hl
  have hhigh : ∀ z, z ∈ M.drop n → Go.DiagLaw.ahead x z = true := by
    intro z hz
    obtain ⟨i, hi, rfl⟩ := List.mem_iff_getElem.1 hz
    rw [List.length_drop] at hi
    rw [List.getElem_drop]
    have := h1 (n + i) (by omega) (by omega)
    rwa [DiagLaw.getD_lt (by omega)] at this
  refine ⟨?_, fun z => ?_⟩
  · refine List.pairwise_append.2 ⟨hM.sublist (List.take_sublist _ _), List.pairwise_cons.2 ⟨fun z hz => hhigh z hz, hM.sublist (List.drop_sublist _ _)⟩, fun a ha b hb => ?_⟩
    rcases List.mem_cons.1 hb with rfl | hb
    · exact hlow a ha
    · exact ahead_trans (hlow a ha) (hhigh b hb)
  · have e : z ∈ M ↔ z ∈ M.take n ∨ z ∈ M.drop n := by rw [← List.mem_append, List.take_append_drop]
    rw [e, List.mem_append, List.mem_cons]
    constructor
    · rintro (h | h | h)
      · exact .inl (.inl h)
      · exact .inr h
      · exact .inl (.inr h)
    · rintro ((h | h) | h)
      · exact .inl h
      · exact .inr (.inr h)
      · exact .inr (.inl h)
theorem take_mem {L : List Dg} {k : Nat} (hk : k < L.length) (z : Dg) : z ∈ L.take (k + 1) ↔ z ∈ L.take k ∨ z = L.getD k (0, 0, 0) := by
  rw [List.take_succ_eq_append_getElem hk, List.mem_append, List.mem_singleton, DiagLaw.getD_lt hk]
theorem fl_sing (p : Dg) : fl [p] = encD p := by
  rw [show [p] = [] ++ [p] from rfl, fl_append]
  simp [fl, flatK]
theorem fl_two (A : List Dg) : ∀ B : List Dg, fl (A ++ B) = fl A ++ fl B := by
  intro B
  induction B generalizing A with
  | nil => simp [fl, flatK]
  | cons b B ih =>
    rw [show A ++ b :: B = (A ++ [b]) ++ B by simp, ih, fl_append, show b :: B = [b] ++ B from rfl, ih [b], fl_sing, List.append_assoc]
theorem fl_take (O : List Dg) (m : Nat) (hm : m ≤ O.length) : fl (O.take m) = (fl O).take (m * 3) := by
  have h := fl_two (O.take m) (O.drop m)
  rw [List.take_append_drop] at h
  rw [h, List.take_left' (by rw [fl_length, List.length_take]; omega)]
theorem fl_drop (O : List Dg) (m : Nat) (hm : m ≤ O.length) : fl (O.drop m) = (fl O).drop (m * 3) := by
  have h := fl_two (O.take m) (O.drop m)
  rw [List.take_append_drop] at h
  rw [h, List.drop_left' (by rw [fl_length, List.length_take]; omega)]
theorem set3 (T D : List Value) (p q r x0 x1 x2 : Value) (k : Nat) (hk : T.length = k) : (((T ++ [p, q, r] ++ D).set k x0).set (k + 1) x1).set (k + 2) x2 = T ++ [x0, x1, x2] ++ D := by
  subst hk
  simp
theorem list3 (X : List Value) (h : X.length = 3) : ∃ p q r, X = [p, q, r] := by
  match X, h with
  | [p, q, r], _ => exact ⟨p, q, r, rfl⟩
/-- The cells behind the copy and the three stores. -/
theorem ins_cells (O : List Dg) (Z : List Value) (hZ : Z.length = 3) (x : Dg) (m : Nat) (hm : m ≤ O.length) :
    (((((fl O ++ Z).take ((m + 1) * 3) ++ (fl O).drop (m * 3)).set (m * 3) (.int .i64 x.1)).set (m * 3 + 1) (.int .i64 x.2.1)).set (m * 3 + 2) (.int .i64 x.2.2)) = fl (O.take m ++ x :: O.drop m) := by
  have hl : ((fl O ++ Z).take ((m + 1) * 3)).length = m * 3 + 3 := by rw [List.length_take, List.length_append, fl_length, hZ]; omega
  have e : (fl O ++ Z).take ((m + 1) * 3) = (fl O).take (m * 3) ++ ((fl O ++ Z).take ((m + 1) * 3)).drop (m * 3) := by
    conv => lhs; rw [← List.take_append_drop (m * 3) ((fl O ++ Z).take ((m + 1) * 3))]
    rw [List.take_take, Nat.min_eq_left (by omega), List.take_append_of_le_length (by rw [fl_length]; omega)]
  obtain ⟨p, q, r, hpqr⟩ := list3 (((fl O ++ Z).take ((m + 1) * 3)).drop (m * 3)) (by rw [List.length_drop, hl]; omega)
  rw [e, hpqr, set3 _ _ _ _ _ _ _ _ _ (by rw [List.length_take, fl_length]; omega), fl_two, show x :: O.drop m = [x] ++ O.drop m from rfl, fl_two [x], fl_sing, fl_take O m hm, fl_drop O m hm]
  simp [encD]
theorem own_below {w W : World} {B n : Nat} {v : Value} {xs : List Value} (h : w.ownsRow B 34 3 v n xs) (hB : Below w.heap.size w W) : W.ownsRow B 34 3 v n xs := by
  refine ⟨h.1, ?_⟩
  rcases h.2 with h | ⟨g, cap, cur, hv, h1, h2, h3, h4, h5, h6⟩
  · exact .inl h
  · exact .inr ⟨g, cap, cur, hv, h1, (hB.block g (Array.getElem?_eq_some_iff.1 h2).1).trans h2, h3, h4, h5, h6⟩
/-- The row behind the copy of its own end by one place. -/
theorem own_spliced {W : World} {B g cnt cap m : Nat} {cur : Array Value} {O : List Dg} {Z : List Value} (hO : O.length = cnt) (hZ : Z.length = 3) (hm : m ≤ cnt) (hb : B ≤ g) (h3 : cnt + 1 ≤ cap) (h4 : cap ≤ maxLen) (h5 : cur.size = cap * 3) (h6 : cur.toList.take ((cnt + 1) * 3) = fl O ++ Z)
    (hW : W.heap[g]? = some (.cells (splice cur.toList ((m + 1) * 3) ((fl O).drop (m * 3))).toArray 34 (0, 0))) :
    W.ownsRow B 34 3 (.slice (some ⟨g, 0, none⟩) (cnt + 1) cap) (cnt + 1) ((fl O ++ Z).take ((m + 1) * 3) ++ (fl O).drop (m * 3)) := by
  have hd : ((fl O).drop (m * 3)).length = (cnt - m) * 3 := by rw [List.length_drop, fl_length, hO]; omega
  have hc : cur.toList.length = cap * 3 := by simpa using h5
  refine ⟨?_, .inr ⟨g, cap, _, rfl, hb, hW, h3, h4, ?_, ?_⟩⟩
  · rw [List.length_append, List.length_take, List.length_append, fl_length, hO, hZ, hd]; omega
  · rw [List.size_toArray, length_splice _ _ _ (by rw [hd, hc]; omega), hc]
  · show (splice cur.toList ((m + 1) * 3) ((fl O).drop (m * 3))).take ((cnt + 1) * 3) = _
    unfold splice
    rw [← h6, List.take_take, Nat.min_eq_left (by omega), ← List.append_assoc, List.take_left' (by rw [List.length_append, List.length_take, hd, hc]; omega)]
/-- 'copy' at elements of k cells, as a step of a region that draws. -/
theorem step_copy_wide {P : Program} {ops : Array Oper} {o : Oper} {a : Act} {w : World} {K : Act → World → Prop} {Q : Exit → Act → World → Prop} {E : Prop} (hgd : o.guard = none) (d s : Operand) (dT sT : TypeId)
    (ho : o.op = .call { callee := .builtin .copy, args := #[d, s], argTypes := #[dT, sT] }) (elem : TypeId) (k : Nat) (hu : P.underlying dT = some (.slice elem)) (hsz : (P.info? elem).map (·.size) = some k)
    (dp sp : Option Addr) (dLen dCap sLen sCap : Nat) (hd : a.eval d = .slice dp dLen dCap) (hs : a.eval s = .slice sp sLen sCap)
    (g off m : Nat) (cur : List Value) (t : TypeId) (hg : w.heap[g]? = some (.cells cur.toArray t (0, 0))) (cs : List Value) (hm : Nat.min sLen dLen = m) (hn : cs.length = m * k)
    (hpos : 0 < m → dp = some ⟨g, off, none⟩ ∧ ∃ ad, sp = some ad ∧ ∀ j v, cs[j]? = some v → w.cell? (ad.add j) = some v)
    (hfit : off + cs.length ≤ cur.length) (h1 : ∀ v ∈ cs, v.oneCell' = true) (B : Nat) (w0 : World) (hb : RowKit.Below B w0 w) (hBg : B ≤ g)
    (h : ∀ w', RowKit.Hid (w'.heap[g]? = some (.cells (splice cur off cs).toArray t (0, 0))) → RowKit.Below B w0 w' → RowKit.Hid (∀ b, b ≠ g → w'.heap[b]? = w.heap[b]?) → K (a.put o.dst (goInt m)) w') :
    if Region.wanted o (yielded ops a.tmps) = true then Oper.wp P o a w K Q else E := by
  have hw : Region.wanted o (yielded ops a.tmps) = true := by simp [Region.wanted, hgd]
  rw [if_pos hw]
  by_cases h0 : m = 0
  · subst h0
    obtain rfl : cs = [] := List.eq_nil_of_length_eq_zero (by simpa using hn)
    have hrun := run_copy_wide_none (P := P) w dT sT o.type elem k dp sp dLen dCap sLen sCap hu hsz hm
    unfold Oper.wp
    simp [execOp, ho, resolve, invoke, builtin, hd, hs, hrun, Result.andThen]
    exact h w (show _ = _ by simpa [splice] using hg) hb (fun _ _ => rfl)
  · obtain ⟨rfl, ad, rfl, hsrc⟩ := hpos (by omega)
    have hrun := run_copy_wide (P := P) w dT sT o.type elem k g off dLen dCap ad sLen sCap m cur.toArray t cs hu hsz hg hm hn hsrc (by simpa using hfit) h1
    unfold Oper.wp
    simp [execOp, ho, resolve, invoke, builtin, hd, hs, hrun, Result.andThen]
    exact h _ (show _ = _ by simpa [splice] using setRow_heap w g _ _ t _ hg) (below_setRow hb hBg _) (fun b hb => setRow_other w g b _ hb)
end D
end Go.Proofs.Ytjecgapnlnmloaa
