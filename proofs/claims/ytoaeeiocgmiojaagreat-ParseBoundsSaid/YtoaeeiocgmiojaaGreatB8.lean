/- A part of the proof: an interpreter of the program, shown right once, and the laws that it computes. -/
import Derived.Test.YtoaeeiocgmiojaaGreatProg
import Derived.WalkKit
import Derived.ProofKit
import Derived.Below
import Derived.WalkMore
import Derived.Deep.RegionWith
import Derived.KernelRfl
import Derived.Lib.ConvBytes
import Derived.Lib.SmallJoins
namespace Go.Proofs.YtoaeeiocgmiojaaGreat
open Go.RowKit
set_option linter.unusedVariables false
/-- The cells of a row of numbers. -/
def IntRow (w : World) (a : Option Addr) (n : Nat) : Prop := ∀ i, i < n → ∃ (b o : Nat) (x : Int), a = some ⟨b, o, none⟩ ∧ b < w.heap.size ∧ w.cell? ⟨b, o + i, none⟩ = some (.int .i64 x)
theorem IntRow.below {w W : World} {a : Option Addr} {n : Nat} (h : IntRow w a n) (hB : Below w.heap.size w W) : IntRow W a n := fun i hi => by
  obtain ⟨b, o, x, h1, h2, h3⟩ := h i hi
  exact ⟨b, o, x, h1, Nat.lt_of_lt_of_le h2 hB.size, (hB.cell (p := ⟨b, o + i, none⟩) h2).trans h3⟩
/-- 'within', as a function. -/
structure IsWithin (g : Int → Int → Int) : Prop where
  low : ∀ a n, 0 < n → n ≤ 1000 → 0 ≤ g a n
  high : ∀ a n, 0 < n → n ≤ 1000 → g a n < n
  calls : ∀ a n, 0 < n → n ≤ 1000 → ∀ w, Calls Tryz.prog 12 #[.int .i64 a, .int .i64 n] w fun e w' => e = .returned (.int .i64 (g a n)) ∧ w' = w
theorem add_some (t u : ByteArray) (h : t.size + u.size ≤ 9223372036854775807) : ∃ T : ByteArray, T.size = t.size + u.size ∧ ∀ w, (Op.stringOp .add t u).run Tryz.prog w = .ok (.string T) w :=
  ⟨t ++ u, ByteArray.size_append, fun w => run_string_add_sum w t u h⟩
theorem ext8 (k : Nat) (h : k ≤ 8) : (ByteArray.extract { data := #[32, 32, 32, 32, 32, 32, 32, 32] } 0 k).size ≤ 8 := by
  rw [ByteArray.size_extract]
  simp [ByteArray.size]
  omega
set_option maxRecDepth 100000 in
theorem tab20_at (n : Nat) (hn : n < 20) : ∃ u : ByteArray, u.size ≤ 8 ∧ (#[Value.string { data := #[45, 32] }, Value.string { data := #[97, 58, 32] }, Value.string { data := #[98, 58, 32, 49] }, Value.string { data := #[45, 32, 99, 58, 32] }, Value.string { data := #[45, 32, 45, 32, 100] }, Value.string { data := #[116, 101, 120, 116] }, Value.string { data := #[91, 49, 44, 32, 50, 93] }, Value.string { data := #[45, 32, 124] }, Value.string { data := #[101, 58, 32, 62] }, Value.string { data := #[102, 58] }, Value.string { data := #[45] }, Value.string { data := #[39, 113, 39, 58, 32, 122] }, Value.string { data := #[45, 45, 45] }, Value.string { data := #[46, 46, 46] }, Value.string { data := #[35, 32, 99] }, Value.string { data := #[123, 97, 58, 32] }, Value.string { data := #[45, 32, 53, 32, 54] }, Value.string { data := #[107, 58, 32, 118, 58, 32, 119] }, Value.string { data := #[42, 120] }, Value.string { data := #[38, 121, 32, 122] }] : Array Value)[n]? = some (.string u) ∧ ([Value.string { data := #[45, 32] }, Value.string { data := #[97, 58, 32] }, Value.string { data := #[98, 58, 32, 49] }, Value.string { data := #[45, 32, 99, 58, 32] }, Value.string { data := #[45, 32, 45, 32, 100] }, Value.string { data := #[116, 101, 120, 116] }, Value.string { data := #[91, 49, 44, 32, 50, 93] }, Value.string { data := #[45, 32, 124] }, Value.string { data := #[101, 58, 32, 62] }, Value.string { data := #[102, 58] }, Value.string { data := #[45] }, Value.string { data := #[39, 113, 39, 58, 32, 122] }, Value.string { data := #[45, 45, 45] }, Value.string { data := #[46, 46, 46] }, Value.string { data := #[35, 32, 99] }, Value.string { data := #[123, 97, 58, 32] }, Value.string { data := #[45, 32, 53, 32, 54] }, Value.string { data := #[107, 58, 32, 118, 58, 32, 119] }, Value.string { data := #[42, 120] }, Value.string { data := #[38, 121, 32, 122] }] : List Value)[n]? = some (.string u) := by
  match n, hn with
  | 0, _ => exact ⟨{ data := #[45, 32] }, by decide, rfl, rfl⟩
  | 1, _ => exact ⟨{ data := #[97, 58, 32] }, by decide, rfl, rfl⟩
  | 2, _ => exact ⟨{ data := #[98, 58, 32, 49] }, by decide, rfl, rfl⟩
  | 3, _ => exact ⟨{ data := #[45, 32, 99, 58, 32] }, by decide, rfl, rfl⟩
  | 4, _ => exact ⟨{ data := #[45, 32, 45, 32, 100] }, by decide, rfl, rfl⟩
  | 5, _ => exact ⟨{ data := #[116, 101, 120, 116] }, by decide, rfl, rfl⟩
  | 6, _ => exact ⟨{ data := #[91, 49, 44, 32, 50, 93] }, by decide, rfl, rfl⟩
  | 7, _ => exact ⟨{ data := #[45, 32, 124] }, by decide, rfl, rfl⟩
  | 8, _ => exact ⟨{ data := #[101, 58, 32, 62] }, by decide, rfl, rfl⟩
  | 9, _ => exact ⟨{ data := #[102, 58] }, by decide, rfl, rfl⟩
  | 10, _ => exact ⟨{ data := #[45] }, by decide, rfl, rfl⟩
  | 11, _ => exact ⟨{ data := #[39, 113, 39, 58, 32, 122] }, by decide, rfl, rfl⟩
  | 12, _ => exact ⟨{ data := #[45, 45, 45] }, by decide, rfl, rfl⟩
  | 13, _ => exact ⟨{ data := #[46, 46, 46] }, by decide, rfl, rfl⟩
  | 14, _ => exact ⟨{ data := #[35, 32, 99] }, by decide, rfl, rfl⟩
  | 15, _ => exact ⟨{ data := #[123, 97, 58, 32] }, by decide, rfl, rfl⟩
  | 16, _ => exact ⟨{ data := #[45, 32, 53, 32, 54] }, by decide, rfl, rfl⟩
  | 17, _ => exact ⟨{ data := #[107, 58, 32, 118, 58, 32, 119] }, by decide, rfl, rfl⟩
  | 18, _ => exact ⟨{ data := #[42, 120] }, by decide, rfl, rfl⟩
  | 19, _ => exact ⟨{ data := #[38, 121, 32, 122] }, by decide, rfl, rfl⟩
  | m + 20, h => exact absurd h (by omega)
set_option maxRecDepth 100000 in
set_option maxHeartbeats 16000000 in
theorem lines14 (g : Int → Int → Int) (hg : IsWithin g) (a : Option Addr) (n c : Nat) (w : World) (hI : IntRow w a n) : Calls Tryz.prog 14 #[.slice a n c] w fun e w' =>
    (∃ (v : Option Addr) (l c' : Nat), e = .returned (.slice v l c')) ∧ Below w.heap.size w w' := by
  go_enter Tryz.func14, Tryz.ntmps14
  go_wp2
  go_loopw [3, 4] (fun s i wr => ∃ (t : ByteArray) (k : Nat), s = .string t ∧ i = .int .i64 k ∧ k ≤ n ∧ k ≤ 30 ∧ t.size ≤ 40 * k ∧ Below w.heap.size w wr) (fun s i _ => 30 - (intOf i).toNat)
  case atStart => exact ⟨⟨#[]⟩, 0, rfl, rfl, by omega, by omega, by decide, Below.refl _ _⟩
  case round =>
    obtain ⟨t, k, rfl, rfl, hk, hk2, ht, hB⟩ := hrel
    have hcv := Lib.run_convert_string_bytes (P := Tryz.prog) wr 9 33 5 t Tryz.underlying9 Tryz.underlying33 Tryz.underlying5
    by_cases h1 : k < n
    · have h1' : (k : Int) < n := by omega
      by_cases h2 : k < 30
      · have h2' : (k : Int) < 30 := by omega
        clear hcv
        obtain ⟨b, o, x, rfl, hb, hc⟩ := hI.below hB k h1
        have l7 := hg.low x 7 (by decide) (by decide)
        have u7 := hg.high x 7 (by decide) (by decide)
        have c7 := hg.calls x 7 (by decide) (by decide)
        have l20 := hg.low (IntKind.i64.wrap (x.tdiv 7)) 20 (by decide) (by decide)
        have u20 := hg.high (IntKind.i64.wrap (x.tdiv 7)) 20 (by decide) (by decide)
        have c20 := hg.calls (IntKind.i64.wrap (x.tdiv 7)) 20 (by decide) (by decide)
        obtain ⟨i7, e7⟩ := Int.eq_ofNat_of_zero_le l7
        obtain ⟨i20, e20⟩ := Int.eq_ofNat_of_zero_le l20
        rw [e7] at c7 u7
        rw [e20] at c20 u20
        clear l7 l20 e7 e20 hg
        have m7 : (0 : Int) ≤ (i7 : Int) := by omega
        have n7 : (i7 : Int) ≤ 8 := by omega
        have m20 : (0 : Int) ≤ (i20 : Int) := by omega
        have n20 : (i20 : Int) < 20 := u20
        obtain ⟨u, hu, hat, hal⟩ := tab20_at i20 (by omega)
        have hx := ext8 i7 (by omega)
        obtain ⟨p, hp⟩ : ∃ p, p = ByteArray.extract { data := #[32, 32, 32, 32, 32, 32, 32, 32] } 0 i7 := ⟨_, rfl⟩
        obtain ⟨T1, hT1, e1⟩ := add_some t (ByteArray.extract { data := #[32, 32, 32, 32, 32, 32, 32, 32] } 0 i7) (by omega)
        obtain ⟨T2, hT2, e2⟩ := add_some T1 u (by omega)
        have h10 : (ByteArray.mk #[10]).size = 1 := rfl
        obtain ⟨T3, hT3, e3⟩ := add_some T2 { data := #[10] } (by omega)
        have hT3' : T3.size ≤ 40 * (k + 1) := by omega
        clear h10
        clear hp
        go_wp2
        go_region_with (first | (go_at_call 12; with_reducible refine (c7 _).mono ?_; rintro e w' ⟨rfl, rfl⟩) | (go_at_call 12; with_reducible refine (c20 _).mono ?_; rintro e w' ⟨rfl, rfl⟩))
        all_goals go_wp2
        all_goals go_roundw
        all_goals first
          | (simp only [intOf]; omega)
          | exact ⟨T3, k + 1, rfl, by simp, by omega, by omega, hT3', by
              repeat first
                | exact hB
                | refine Below.drew ?_
                | refine Below.alloc ?_ (by have := hB.size; simp; omega) _⟩
      · have h2' : ¬ (k : Int) < 30 := by omega
        go_wp2
        go_ret
        exact ⟨⟨_, _, _, rfl⟩, hB.trans ((Go.Joins.below_bytesWorld wr.heap.size wr _ t (Nat.le_refl _)).mono hB.size)⟩
    · have h1' : ¬ (k : Int) < n := by omega
      go_wp2
      go_ret
      exact ⟨⟨_, _, _, rfl⟩, hB.trans ((Go.Joins.below_bytesWorld wr.heap.size wr _ t (Nat.le_refl _)).mono hB.size)⟩
end Go.Proofs.YtoaeeiocgmiojaaGreat
