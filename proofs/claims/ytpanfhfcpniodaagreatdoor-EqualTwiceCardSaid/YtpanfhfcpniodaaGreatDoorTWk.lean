/- A part of the proof: an interpreter of the program, shown right once, and the laws that it computes. -/
import Derived.Test.YtpanfhfcpniodaaGreatDoorTWb
set_option linter.unusedVariables false
namespace Go.Proofs.YtpanfhfcpniodaaGreatDoor
open Go.Eng Go.RowKit
noncomputable def keyRun (k : Int) (l : List Nat) : R := (run Tryz.prog noExt 10000).f 34 [.agg [.int .i64 k, .str l, .str [], .nilsl], .sym 600] s₀ .ok
def strIs (r : R) (l : List Nat) : Bool := match r with
  | .ok (.str l') _ => listEq l' l
  | _ => false
def strShort (r : R) : Bool := match r with
  | .ok (.str l) _ => Nat.ble l.length 20
  | _ => false
/-- A key's word: of a letter; of a digit. -/
def ksL (x : Nat) : List Nat := [53, 32, 34, 107, x, 34, 32, 34, 34]
def dsL (d : Nat) : List Nat := [51, 32, 34, d, 34, 32, 34, 34]
theorem keys_k : (allB (fun x => strIs (keyRun 5 [107, x]) (ksL x)) [97, 98, 99, 100, 101, 102] && allB (fun d => strIs (keyRun 3 [d]) (dsL d)) [48, 49, 50, 51, 52, 53, 54, 55, 56, 57]) = true := by kernel_rfl
theorem itoa_k : allB (fun c => strShort ((run Tryz.prog noExt 10000).f 63 [.int .i64 (.ofNat c)] s₀ .ok)) [0,1,2,3,4,5,6,7,8,9,10,11,12,13,14,15,16,17,18,19,20,21,22,23,24,25,26,27,28,29,30,31] = true := by kernel_rfl
theorem quote_k : strIs ((run Tryz.prog noExt 10000).f 64 [.str []] s₀ .ok) [34, 34] = true := by kernel_rfl
theorem known_k : isTrue ((run Tryz.prog noExt 10000).f 5 [] s₀ .ok) = true := by kernel_rfl
theorem allB_mem {α : Type} {f : α → Bool} {l : List α} (h : allB f l = true) {x : α} (hx : x ∈ l) : f x = true := by
  induction l with
  | nil => cases hx
  | cons a l ih =>
    have h : Bool.rec (motive := fun _ => Bool) false (allB f l) (f a) = true := h
    cases ha : f a with
    | false => rw [ha] at h; cases h
    | true =>
      rw [ha] at h
      rcases List.mem_cons.1 hx with rfl | hx
      · exact ha
      · exact ih h hx
theorem listEq_of {a b : List Nat} (h : listEq a b = true) : a = b := listEq_eq h
theorem calls_str {f : Nat} {args : List IV} {l : List Nat} {γ : Gam} (h : strIs ((run Tryz.prog noExt 10000).f f args s₀ .ok) l = true) {args' : List Value} (hv : VRs (fun _ => none) γ args args') (w : World) :
    Calls Tryz.prog f args'.toArray w fun e w' => e = .returned (.string (strN l)) ∧ Below w.heap.size w w' := by
  unfold strIs at h
  split at h <;> (try (cases h; done))
  rename_i l' s1 hr
  refine (calls_of_run (γ := γ) follows noExt_ok hr hv w).mono ?_
  rintro e w' ⟨v', ρ', rfl, hb, hv'⟩
  cases hv' with
  | str s _ hs => rw [strN_of hs, listEq_of h]; exact ⟨rfl, hb⟩
def gam6 (v : Value) : Gam := fun j => if j = 600 then v else .int .i64 0
theorem sr_N (l : List Nat) (h : ∀ x ∈ l, x < 256) : (strN l).data.toList.map UInt8.toNat = l := by
  show ((l.map UInt8.ofNat).toArray.toList).map UInt8.toNat = l
  rw [List.map_map]
  conv => rhs; rw [← List.map_id l]
  exact List.map_congr_left fun x hx => by simp; exact h x hx
theorem key_args (k : Int) (l : List Nat) (hl : ∀ x ∈ l, x < 256) (kids : Value) (hk : kids.oneCell' = true) :
    VRs (fun _ => none) (gam6 kids) [.agg [.int .i64 k, .str l, .str [], .nilsl], .sym 600] [.agg #[.int .i64 k, .string (strN l), .string (strN []), .slice none 0 0], kids] := by
  have h6 : gam6 kids 600 = kids := rfl
  refine .cons _ _ _ _ (.agg _ _ (.cons _ _ _ _ (.int _ _) (.cons _ _ _ _ (.str _ _ (sr_N l hl)) (.cons _ _ _ _ (.str _ _ (sr_N [] (by simp))) (.cons _ _ _ _ .nilsl .nil))))) (.cons _ _ _ _ ?_ .nil)
  have := VR.sym (ρ := fun _ => none) (γ := gam6 kids) 600 (by rw [h6]; exact hk) (by omega) (by omega) (by omega)
  rw [h6] at this
  exact this
theorem key34 (x : Nat) (h1 : 97 ≤ x) (h2 : x ≤ 102) (kids : Value) (hk : kids.oneCell' = true) (w : World) : Calls Tryz.prog 34 #[.agg #[.int .i64 5, .string (strN [107, x]), .string (strN []), .slice none 0 0], kids] w fun e w' => e = .returned (.string (strN (ksL x))) ∧ Below w.heap.size w w' := by
  have hk' := keys_k
  rw [Bool.and_eq_true] at hk'
  have := allB_mem hk'.1 (x := x) (by simp; omega)
  exact calls_str this (key_args 5 [107, x] (by simp; omega) kids hk) w
theorem key34d (d : Nat) (h1 : 48 ≤ d) (h2 : d ≤ 57) (kids : Value) (hk : kids.oneCell' = true) (w : World) : Calls Tryz.prog 34 #[.agg #[.int .i64 3, .string (strN [d]), .string (strN []), .slice none 0 0], kids] w fun e w' => e = .returned (.string (strN (dsL d))) ∧ Below w.heap.size w w' := by
  have hk' := keys_k
  rw [Bool.and_eq_true] at hk'
  have := allB_mem hk'.2 (x := d) (by simp; omega)
  exact calls_str this (key_args 3 [d] (by simp; omega) kids hk) w
theorem quote64 (w : World) : Calls Tryz.prog 64 #[.string (strN [])] w fun e w' => e = .returned (.string (strN [34, 34])) ∧ Below w.heap.size w w' :=
  calls_str (γ := gam6 (.bool true)) quote_k (args' := [.string (strN [])]) (.cons _ _ _ _ (.str _ _ rfl) .nil) w
theorem itoa63 (c : Nat) (hc : c < 32) (w : World) : Calls Tryz.prog 63 #[.int .i64 c] w fun e w' => ∃ s : ByteArray, e = .returned (.string s) ∧ s.size ≤ 20 ∧ Below w.heap.size w w' := by
  have := allB_mem itoa_k (x := c) (by simp; omega)
  unfold strShort at this
  split at this <;> (try (cases this; done))
  rename_i l s1 hr
  refine (calls_of_run (γ := gam6 (.bool true)) follows noExt_ok hr (args' := [.int .i64 c]) (.cons _ _ _ _ (.int _ _) .nil) w).mono ?_
  rintro e w' ⟨v', ρ', rfl, hb, hv'⟩
  cases hv' with
  | str s _ hs =>
    refine ⟨s, rfl, ?_, hb⟩
    have h1 : (s.data.toList.map UInt8.toNat).length = s.size := by simp
    rw [hs] at h1
    rw [← h1]
    simpa using this
theorem known5 (w : World) : Calls Tryz.prog 5 #[] w fun e w' => e = .returned (.bool true) ∧ Below w.heap.size w w' :=
  law_of_run (γ := gam6 (.bool true)) (args' := []) follows noExt_ok known_k .nil w
end Go.Proofs.YtpanfhfcpniodaaGreatDoor
