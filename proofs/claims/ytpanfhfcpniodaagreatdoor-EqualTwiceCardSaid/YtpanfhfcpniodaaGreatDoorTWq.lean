/- A part of the proof: an interpreter of the program, shown right once, and the laws that it computes. -/
import Derived.Test.YtpanfhfcpniodaaGreatDoorTWp
import Derived.BigQuiet
namespace Go.Proofs.YtpanfhfcpniodaaGreatDoor
open Go.Eng Go.RowKit Go.MapF Go.MapKept
set_option linter.unusedVariables false
theorem below_drewN {B : Nat} {a w : World} (h : Below B a w) : ∀ q, Below B a (w.drewN q)
  | 0 => h
  | q + 1 => (below_drewN h q).drew
set_option maxRecDepth 100000 in
set_option maxHeartbeats 4000000 in
/-- Rows that are the same. -/
theorem ints13 (a b : Option Addr) (ca cb : Nat) (L : List Nat) (n : Nat) (hL : L.length = n) (hn : n ≤ 40) (w : World) (ha : ∀ j x, L[j]? = some x → ∃ g, a = some ⟨g, 0, none⟩ ∧ w.cell? ⟨g, j, none⟩ = some (.int .i64 (x : Nat))) (hb : ∀ j x, L[j]? = some x → ∃ g, b = some ⟨g, 0, none⟩ ∧ w.cell? ⟨g, j, none⟩ = some (.int .i64 (x : Nat))) :
    Calls Tryz.prog 13 #[.slice a n ca, .slice b n cb] w fun e w' => e = .returned (.bool true) ∧ Below w.heap.size w w' := by
  have HH : Aside0 (L.length = n ∧ (∀ j x, L[j]? = some x → ∃ g, a = some ⟨g, 0, none⟩ ∧ w.cell? ⟨g, j, none⟩ = some (.int .i64 (x : Nat))) ∧ (∀ j x, L[j]? = some x → ∃ g, b = some ⟨g, 0, none⟩ ∧ w.cell? ⟨g, j, none⟩ = some (.int .i64 (x : Nat)))) := ⟨hL, ha, hb⟩
  clear hL ha hb
  go_enter Tryz.func13, Tryz.ntmps13
  go_wp2
  go_loopw [5] (fun v wr => ∃ (k : Nat), v = .int .i64 k ∧ k ≤ n ∧ Below w.heap.size w wr) (fun v _ => n - (intOf v).toNat)
  case atStart => exact ⟨0, rfl, Nat.zero_le _, Below.refl _ _⟩
  case round =>
    obtain ⟨k, rfl, hk, hB⟩ := hrel
    by_cases hlt : k < n
    · have hlt' : (k : Int) < n := by omega
      have h0 : (0 : Int) ≤ k := by omega
      have hx : L[k]? = some (L[k]'(by rw [HH.out.1]; exact hlt)) := List.getElem?_eq_getElem _
      obtain ⟨g, rfl, c1⟩ := HH.out.2.1 k _ hx
      obtain ⟨g', rfl, c2⟩ := HH.out.2.2 k _ hx
      generalize (L[k]'(by rw [HH.out.1]; exact hlt)) = x at c1 c2
      have d1 := cellB hB (lt_cell c1) c1
      have d2 := cellB hB (lt_cell c2) c2
      clear c1 c2 hx
      go_wp2
      go_quiet (fail)
      go_wp2
      go_roundw
      case rel => exact ⟨k + 1, by simp, by omega, below_drewN hB _⟩
      case measure => simp only [intOf]; omega
    · have hk' : k = n := by omega
      subst hk'
      have hlt' : ¬ (k : Int) < k := by omega
      go_wp2
      go_ret
      exact ⟨rfl, hB⟩
def isAgg3 : R → Bool
  | .ok (.agg [.sym a, .sym b, .sym c]) _ => Nat.beq a 601 && Nat.beq b 602 && Nat.beq c 603
  | _ => false
theorem of_k : isAgg3 ((run Tryz.prog noExt 10000).f 10 [.agg [.sym 601, .sym 602, .sym 603]] s₀ .ok) = true := by kernel_rfl
def gam3 (x y z : Value) : Gam := fun j => if j = 601 then x else if j = 602 then y else if j = 603 then z else .int .i64 0
theorem vr_sym {ρ : Rho} {γ : Gam} {k : Nat} {x : Value} (h : VR ρ γ (.sym k) x) : x = γ k := by
  generalize hq : IV.sym k = q at h
  cases h <;> cases hq
  rfl
theorem of10 (x y z : Value) (h0 : x.oneCell' = true) (h1 : y.oneCell' = true) (h2 : z.oneCell' = true) (w : World) : Calls Tryz.prog 10 #[.agg #[x, y, z]] w fun e w' => e = .returned (.agg #[x, y, z]) ∧ Below w.heap.size w w' := by
  have h := of_k
  unfold isAgg3 at h
  split at h <;> (try (cases h; done))
  rename_i a b c s1 hr
  simp only [Bool.and_eq_true] at h
  obtain ⟨⟨ha, hb⟩, hc⟩ := h
  rw [Nat.eq_of_beq_eq_true ha, Nat.eq_of_beq_eq_true hb, Nat.eq_of_beq_eq_true hc] at hr
  have g1 : gam3 x y z 601 = x := rfl
  have g2 : gam3 x y z 602 = y := rfl
  have g3 : gam3 x y z 603 = z := rfl
  have sy : ∀ k v, gam3 x y z k = v → v.oneCell' = true → 500 ≤ k → k < 1000 → VR (fun _ => none) (gam3 x y z) (.sym k) v := fun k v hk hv h5 h6 => by
    have := VR.sym (ρ := fun _ => none) (γ := gam3 x y z) k (by rw [hk]; exact hv) (by omega) (by omega) (by omega)
    rw [hk] at this; exact this
  refine (calls_of_run (γ := gam3 x y z) follows noExt_ok hr (args' := [.agg #[x, y, z]]) (.cons _ _ _ _ (.agg _ _ (.cons _ _ _ _ (sy 601 x g1 h0 (by omega) (by omega)) (.cons _ _ _ _ (sy 602 y g2 h1 (by omega) (by omega)) (.cons _ _ _ _ (sy 603 z g3 h2 (by omega) (by omega)) .nil)))) .nil) w).mono ?_
  rintro e w' ⟨v', ρ', rfl, hb', hv'⟩
  cases hv' with
  | agg _ a ha =>
    obtain ⟨a⟩ := a
    cases ha with
    | cons _ y1 _ l1 h11 hl1 =>
    cases hl1 with
    | cons _ y2 _ l2 h12 hl2 =>
    cases hl2 with
    | cons _ y3 _ l3 h13 hl3 =>
    cases hl3
    rw [vr_sym h11, vr_sym h12, vr_sym h13]
    exact ⟨rfl, hb'⟩
end Go.Proofs.YtpanfhfcpniodaaGreatDoor
