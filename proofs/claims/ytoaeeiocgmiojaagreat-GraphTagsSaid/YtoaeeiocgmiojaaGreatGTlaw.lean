/- A part of the proof: an interpreter of the program, shown right once, and the laws that it computes. -/
import Derived.Test.YtoaeeiocgmiojaaGreatGTw
import Derived.Test.YtoaeeiocgmiojaaGreatGTx0
import Derived.Test.YtoaeeiocgmiojaaGreatGTx1
import Derived.Test.YtoaeeiocgmiojaaGreatGTx2
import Derived.Test.YtoaeeiocgmiojaaGreatGTx3
import Derived.Test.YtoaeeiocgmiojaaGreatGTx4
import Derived.Test.YtoaeeiocgmiojaaGreatGTx5
import Derived.Test.YtoaeeiocgmiojaaGreatGTx6
import Derived.Test.YtoaeeiocgmiojaaGreatRows
import Derived.ChangeMaps5
namespace Go.Proofs.YtoaeeiocgmiojaaGreat
open Go.ChangeShapes Go.WideShapes Go.ChangeAt Go.RowKit Go.Eng
open Go.ChangeMaps (open_string shut_string)
set_option linter.unusedVariables false

/-- So many letters. -/
def lets (n : Nat) : List Nat := (List.range n).map (256 + ·)
theorem tagsAll : ∀ n, n ≤ 20 → all5 (lets n) = true
  | 0, _ => tags0
  | 1, _ => tags1
  | 2, _ => tags2
  | 3, _ => tags3
  | 4, _ => tags4
  | 5, _ => tags5
  | 6, _ => tags6
  | 7, _ => tags7
  | 8, _ => tags8
  | 9, _ => tags9
  | 10, _ => tags10
  | 11, _ => tags11
  | 12, _ => tags12
  | 13, _ => tags13
  | 14, _ => tags14
  | 15, _ => tags15
  | 16, _ => tags16
  | 17, _ => tags17
  | 18, _ => tags18
  | 19, _ => tags19
  | 20, _ => tags20
  | n + 21, h => absurd h (by omega)
/-- What the letters stand for: the name's bytes. -/
def gam (s : ByteArray) (a : Int) : Gam := fun k =>
  if k < 1000 then .int .i64 a else if k < 2000 then .int .u8 (byt s (k - 1000) : Int) else if k < 3000 then .int .i64 (byt s (k - 2000) : Int) else .int .i32 (byt s (k - 3000) : Int)
theorem gam_let {s : ByteArray} {a : Int} {j : Nat} (hj : j < 1000) (h1 : 97 ≤ byt s j) (h2 : byt s j ≤ 122) : LetOk (gam s a) j := by
  refine ⟨byt s j, h1, h2, ?_, ?_, ?_⟩
  · unfold gam; rw [if_neg (by omega), if_pos (by omega), Nat.add_sub_cancel_left]
  · unfold gam; rw [if_neg (by omega), if_neg (by omega), if_pos (by omega), Nat.add_sub_cancel_left]
  · unfold gam; rw [if_neg (by omega), if_neg (by omega), if_neg (by omega), Nat.add_sub_cancel_left]
theorem lets_den (s : ByteArray) (a : Int) (h : s.size ≤ 20) : s.data.toList.map UInt8.toNat = (lets s.size).map (den (gam s a)) := by
  have hl : s.data.toList.length = s.size := by simp
  apply List.ext_getElem
  · simp [lets]
  · intro i h1 h2
    have hi : i < s.size := by simpa using h1
    simp only [List.getElem_map, lets, List.getElem_range]
    unfold den denL gam
    rw [if_neg (by omega), if_neg (by omega), if_pos (by omega)]
    simp only [Int.toNat_natCast]
    have e : 1000 + (256 + i - 256) - 1000 = i := by omega
    rw [e]
    unfold byt
    rw [List.getD_eq_getElem?_getD, List.getElem?_eq_getElem (by omega)]
    rfl
theorem good9 (s : ByteArray) (a : Int) (h : s.size ≤ 20) (hlet : ∀ i, i < s.size → 97 ≤ byt s i ∧ byt s i ≤ 122) (w : World) :
    Calls Tryz.prog 9 #[.string s, .int .i64 a] w fun e w' => e = .returned (.bool true) ∧ Below w.heap.size w w' := by
  obtain ⟨k, hk, hc⟩ := within16 a 5 (by decide) (by decide)
  have hg0 : gam s a 0 = .int .i64 a := rfl
  have hX := extG_ok (γ := gam s a) (n := 5) hg0 hc
  have ha := (allB_iff _ _).1 (tagsAll s.size h) k (by
    have : k = 0 ∨ k = 1 ∨ k = 2 ∨ k = 3 ∨ k = 4 := by omega
    rcases this with rfl | rfl | rfl | rfl | rfl <;> simp)
  have hv0 : VR (fun _ => none) (gam s a) (.sym 0) (.int .i64 a) := by
    have := VR.sym (ρ := fun _ => none) (γ := gam s a) 0 (by rw [hg0]; rfl) (fun _ => ⟨a, hg0⟩) (fun h => by omega) (fun h => by omega)
    rw [hg0] at this
    exact this
  exact law_of_run (args' := [.string s, .int .i64 a]) follows hX ha (.cons _ _ _ _ (.sstr s _ (lets_den s a h) (by
    intro c hc
    unfold lets at hc
    obtain ⟨i, hi, rfl⟩ := List.mem_map.1 hc
    have hi' : i < s.size := by simpa using hi
    refine .inr ⟨by omega, by omega, ?_⟩
    rw [Nat.add_sub_cancel_left]
    exact gam_let (by omega) (hlet i hi').1 (hlet i hi').2)) (.cons _ _ _ _ hv0 .nil)) w
/-- The first byte that is no letter, if any. -/
theorem first_bad (s : ByteArray) : ∀ n, n ≤ s.size → (∀ i, i < n → 97 ≤ byt s i ∧ byt s i ≤ 122) ∨ ∃ j, j < n ∧ (∀ i, i < j → 97 ≤ byt s i ∧ byt s i ≤ 122) ∧ (byt s j < 97 ∨ 122 < byt s j)
  | 0, _ => .inl fun i hi => absurd hi (Nat.not_lt_zero i)
  | n + 1, h => by
    rcases first_bad s n (by omega) with hA | ⟨j, h1, h2, h3⟩
    · by_cases hb : 97 ≤ byt s n ∧ byt s n ≤ 122
      · refine .inl fun i hi => ?_
        by_cases e : i = n
        · rw [e]; exact hb
        · exact hA i (by omega)
      · exact .inr ⟨n, by omega, hA, by omega⟩
    · exact .inr ⟨j, by omega, h2, h3⟩
theorem graphTags_walk (s : ByteArray) (a : Int) (w : World) : Calls Tryz.prog 9 #[.string s, .int .i64 a] w fun e w' => e = .returned (.bool true) ∧ Below w.heap.size w w' := by
  by_cases h : 20 < s.size
  · exact long9 s a h w
  · rcases first_bad s s.size (Nat.le_refl _) with hA | ⟨j, h1, h2, h3⟩
    · exact good9 s a (by omega) hA w
    · exact bad9 s a (by omega) j h1 h2 h3 w
namespace graphTags
theorem own : ownKnob Tryz.prog.godebug = none := by kernel_rfl
set_option maxRecDepth 100000 in
theorem lifted (os : Os) (started : os.Started) (H : Type) (enc : TypeId × Value → H) :
    ReturnsInHanded {} Tryz.checked os 9 .any (Rows.graphTagsSpec.pre6 enc Tryz.prog Tryz.f9 Rows.graphTagsRow.domain false) (Rows.graphTagsSpec.post enc Tryz.prog Tryz.f9 false true false false) := by
  refine returnsInHanded_of_change_sized (C := Tryz.checked) own started (by kernel_rfl) Tryz.func9
    (ChangeSpec.witness6 (enc := enc) (C := Tryz.checked) false ⟨#[], #[.string ByteArray.empty, .int .i64 0], []⟩ 8 (by kernel_rfl) (by kernel_rfl) (by kernel_rfl) (by kernel_rfl)) ?_
  intro W base args ds gs before hval0 hW hcnd hsz0 _
  have hval : ∀ (j : Nat) t v, Tryz.f9.params[j]? = some t → args[j]? = some v → Value.okWide Tryz.prog W .any base t v := hval0
  have hW' := hW
  obtain ⟨p, q, hA0, hV, rfl, hfz, hnd⟩ := hW
  have hA : DataW.TrodAll enc Tryz.prog W 0 (fun _ => true) true Tryz.f9.params.toList args.toList ds p := hA0
  rw [Tryz.params9] at hA hval
  obtain ⟨v0, vs0, d0, ds0, p0, q0, hargs, rfl, rfl, h0, r0⟩ := trodAll_cons hA
  obtain ⟨v1, vs1, d1, ds1, p1, q1, rfl, rfl, rfl, h1, r1⟩ := trodAll_cons r0
  obtain ⟨rfl, rfl, rfl⟩ := trodAll_nil r1
  obtain rfl : args = #[v0, v1] := by cases args; simp_all
  obtain ⟨rfl, rfl⟩ := trodVars_none hV
  obtain ⟨a0, rfl, rfl, rfl, y0⟩ := open_string Tryz.underlying9 (hval 0 9 v0 rfl rfl) h0
  obtain ⟨a1, rfl, rfl, rfl, y1⟩ := open_int Tryz.underlying3 (hval 1 3 v1 rfl rfl) h1
  clear hA0 hval0 hsz0
  refine (graphTags_walk a0 a1 W).mono fun e W' ⟨he, bel⟩ => ?_
  subst he
  exact ⟨_, rfl, _, _, _, [], _, [], hW', trodAll_mk1 (shut_bool Tryz.underlying4 _), (trodAll_cons_mk (shut_string Tryz.underlying9 y0) (trodAll_cons_mk (shut_int Tryz.underlying3 y1) trodAll_mk0)), rfl, bel.frame _, fun h => by cases h⟩
theorem over : Rows.graphTagsRow.holds Tryz.pinned (OpenSpec.ofChange Rows.graphTagsSpec) :=
  OpenClaim.holds_of_wide 9 Tryz.f9 rfl rfl rfl rfl rfl rfl rfl ⟨rfl, rfl, rfl, rfl, rfl⟩ rfl rfl rfl rfl rfl (by kernel_rfl) Tryz.func9 (by kernel_rfl)
    (of_decide_eq_true (by kernel_rfl)) (by unfold Func.isWrapper; first | (rw [if_pos (by decide +kernel)]; kernel_rfl) | (rw [if_neg (by decide +kernel)]; exact ⟨rfl, rfl⟩))
    (fun os started H enc _ => lifted os started H enc)
end graphTags
/-- The law GraphTags holds. -/
theorem graphTags_holds : Rows.GraphTagsSaid := graphTags.over
#print axioms graphTags_holds
end Go.Proofs.YtoaeeiocgmiojaaGreat
